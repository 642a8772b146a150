/- Several texts in one: Rs Ry E17 E19 E21 E26 E29 O2 On. -/
import Derived.Test.YtpdpcgeeneajjaaDoornL2toRu
import Derived.Test.YtpdpcgeeneajjaaDoornRvtoC
import Derived.Test.YtpdpcgeeneajjaaDoornRx
import Derived.Test.YtpdpcgeeneajjaaDoornJ
import Derived.DeepKeys4
import Derived.WideKeyEntry
import Derived.Test.YtpdpcgeeneajjaaDoornVbtoU3
import Derived.Carry
import Derived.Test.YtpdpcgeeneajjaaDoornE1toI0
import Derived.Test.YtpdpcgeeneajjaaDoornJ2
import Derived.OrdersHeld
import Derived.Test.YtpdpcgeeneajjaaDoornPltoG4
import Derived.Deep.Slices
import Derived.Lib.SmallJoins
set_option linter.unusedVariables false
set_option linter.unusedSimpArgs false
section
namespace Go.Proofs.YtpdpcgeeneajjaaDoor
open Go.RowKit
def endl (L : List (List UInt8)) : List UInt8 := L.flatMap fun l => l ++ [10]
theorem spl_endl : ∀ (L : List (List UInt8)), (∀ l ∈ L, ∀ b ∈ l, b ≠ 10) → splF 10 (endl L) = L ++ [[]]
  | [], _ => rfl
  | l :: L, h => by
    have e : endl (l :: L) = l ++ 10 :: endl L := by unfold endl; simp
    rw [e, splF_part (h l (List.mem_cons_self ..)), spl_endl L fun x hx => h x (List.mem_cons_of_mem _ hx)]
    rfl
theorem no10_line (i : Ins) : ∀ b ∈ lineB i, b ≠ 10 := fun b hb e => by
  subst e
  have hp : ∀ k v, (10 : UInt8) ∈ partB k v → False := fun k v h => by
    unfold partB at h
    split at h
    · simp at h
    · rcases List.mem_append.1 h with h | h
      · rcases List.mem_append.1 h with h | h
        · simp at h
        · unfold letB at h
          split at h
          · simp at h
          · split at h
            · simp at h
            · split at h <;> simp at h
      · rcases itoa_mem h with h | h
        · exact absurd h (by decide)
        · exact absurd h.1 (by decide)
  unfold lineB at hb
  rcases List.mem_append.1 hb with hb | hb
  · rcases List.mem_append.1 hb with hb | hb
    · rcases List.mem_append.1 hb with hb | hb
      · have : ∀ k, (10 : UInt8) ∉ (opStr k).data.toList := fun k => by unfold opStr; split <;> decide
        exact this _ hb
      · exact hp _ _ hb
    · exact hp _ _ hb
  · exact hp _ _ hb
theorem linesF_good : ∀ {l : List Ins}, (∀ i ∈ l, i.formed = true) → ∀ r, linesF (l.map lineB ++ r) = (l ++ (linesF r).1, l.length + (linesF r).2)
  | [], _, r => by simp
  | i :: l, h, r => by
    rw [List.map_cons, List.cons_append, linesF_cons (instr_line (h i (List.mem_cons_self ..))), linesF_good (fun x hx => h x (List.mem_cons_of_mem _ hx)) r]
    refine Prod.ext rfl ?_
    show l.length + (linesF r).2 + 1 = (i :: l).length + (linesF r).2
    rw [List.length_cons]; omega
theorem dropLast_snoc {α : Type} (L : List α) (x : α) : (L ++ [x]).dropLast = L := by simp
theorem getLast_snoc {α : Type} (L : List α) (x d : α) : (L ++ [x]).getLastD d = x := by
  rw [List.getLastD_eq_getLast?]; simp
def wordU (w : List UInt8) : Prop := ∀ b ∈ w, 65 ≤ b.toNat ∧ b.toNat ≤ 90
theorem word_bad {w : List UInt8} (h : wordU w) : instrF w = none := by
  have hs : splF 32 w = [w] := splF_plain fun b hb e => by
    have := h b hb
    rw [e] at this
    exact absurd this.1 (by decide)
  have ho : opOf w = none := by
    cases e : opOf w with
    | none => rfl
    | some k =>
      obtain ⟨hk, he⟩ := opOf_some e
      exfalso
      have hx : ∃ b, b ∈ (opStr k).data.toList ∧ 97 ≤ b.toNat := by
        unfold opStr
        split <;> exact ⟨_, List.mem_cons_self .., by decide⟩
      obtain ⟨b, hb, hb2⟩ := hx
      rw [he] at hb
      have := h b hb
      omega
  unfold instrF
  rw [hs]
  simp only [List.headD_cons, ho]
theorem parse_bad {l : List Ins} (h : ∀ i ∈ l, i.formed = true) (hl : l.length ≤ 500) {w : List UInt8} (hw : wordU w) {k : Nat} (hk : k ≤ l.length) : parseF (endl ((l.take k).map lineB ++ w :: (l.drop k).map lineB)) = ([], (k : Int) + 1, 21) := by
  have hs : splF 10 (endl ((l.take k).map lineB ++ w :: (l.drop k).map lineB)) = ((l.take k).map lineB ++ w :: (l.drop k).map lineB) ++ [[]] := by
    rw [spl_endl]
    intro x hx
    rcases List.mem_append.1 hx with hx | hx
    · obtain ⟨i, -, rfl⟩ := List.mem_map.1 hx
      exact no10_line i
    · rcases List.mem_cons.1 hx with rfl | hx
      · intro b hb e
        have := hw b hb
        rw [e] at this
        exact absurd this.1 (by decide)
      · obtain ⟨i, -, rfl⟩ := List.mem_map.1 hx
        exact no10_line i
  have hg := linesF_good (l := l.take k) (fun i hi => h i (List.mem_of_mem_take hi)) (w :: (l.drop k).map lineB)
  have h0 : linesF (w :: (l.drop k).map lineB) = ([], 0) := by
    exact linesF_stop (word_bad hw) _
  rw [h0, List.length_take, Nat.min_eq_left hk] at hg
  have hlen : ((l.take k).map lineB ++ w :: (l.drop k).map lineB).length = l.length + 1 := by simp; omega
  unfold parseF
  rw [hs, dropLast_snoc, getLast_snoc]
  unfold parseL
  rw [hg, hlen, if_neg (by rintro (h | ⟨h, -⟩); · omega
                           · exact h rfl), if_pos (by omega)]
  simp
end Go.Proofs.YtpdpcgeeneajjaaDoor
end
section
namespace Go.Proofs.YtpdpcgeeneajjaaDoor
open Go.RowKit
def RetPar (w : World) (R : List Ins × Int × Int) (e : Ending) (w' : World) : Prop := ∃ A c, e = .returned (.tuple #[.slice A R.1.length c, .int .i64 R.2.1, .int .i64 R.2.2]) ∧ R.1.length ≤ c ∧ InsAt w' A R.1 ∧ Below w.heap.size w w'
theorem splF_end (c : UInt8) (l : List UInt8) : ∃ L x, splF c l = L ++ [x] := by
  have h := splF_ne c l
  exact ⟨(splF c l).dropLast, (splF c l).getLast h, (List.dropLast_concat_getLast h).symm⟩
theorem parse_eq {t : List UInt8} {L : List (List UInt8)} {x : List UInt8} (h : splF 10 t = L ++ [x]) : parseF t = parseL L x := by
  unfold parseF; rw [h, dropLast_snoc, getLast_snoc]
def LinesTo (L : List (List UInt8)) (k : Nat) (l : List Ins) : Prop := l.length = k ∧ linesF L = (l ++ (linesF (L.drop k)).1, k + (linesF (L.drop k)).2)
theorem LinesTo.zero (L : List (List UInt8)) : LinesTo L 0 [] := ⟨rfl, by simp⟩
theorem LinesTo.next {L : List (List UInt8)} {k : Nat} {l : List Ins} {s : List UInt8} {i : Ins} (h : LinesTo L k l) (hs : L[k]? = some s) (hi : instrF s = some i) : LinesTo L (k + 1) (l ++ [i]) := by
  obtain ⟨h1, h2⟩ := h
  obtain ⟨hlt, hg⟩ := List.getElem?_eq_some_iff.1 hs
  rw [List.drop_eq_getElem_cons hlt, hg, linesF_cons hi] at h2
  refine ⟨by rw [List.length_append, h1]; rfl, ?_⟩
  rw [h2, List.append_assoc]
  refine Prod.ext rfl ?_
  show k + ((linesF (L.drop (k + 1))).2 + 1) = k + 1 + (linesF (L.drop (k + 1))).2
  omega
theorem LinesTo.stop {L : List (List UInt8)} {k : Nat} {l : List Ins} {s : List UInt8} (h : LinesTo L k l) (hs : L[k]? = some s) (hi : instrF s = none) : (linesF L).2 = k := by
  obtain ⟨hlt, hg⟩ := List.getElem?_eq_some_iff.1 hs
  rw [h.2, List.drop_eq_getElem_cons hlt, hg, linesF_stop hi]
  rfl
theorem LinesTo.all {L : List (List UInt8)} {l : List Ins} (h : LinesTo L L.length l) : linesF L = (l, L.length) := by
  have h2 := h.2
  rw [List.drop_length] at h2
  rw [h2]
  show (l ++ [], L.length + 0) = _
  rw [List.append_nil, Nat.add_zero]
theorem parse_many {L : List (List UInt8)} {x : List UInt8} (h : 512 < L.length ∨ (x ≠ [] ∧ L.length = 512)) : parseL L x = ([], 0, 5) := by unfold parseL; rw [if_pos h]
theorem parse_stop {L : List (List UInt8)} {x : List UInt8} {k : Nat} (h : ¬ (512 < L.length ∨ (x ≠ [] ∧ L.length = 512))) (hk : (linesF L).2 = k) (hl : k < L.length) : parseL L x = ([], (k : Int) + 1, 21) := by unfold parseL; rw [if_neg h, hk, if_pos hl]
theorem parse_last {L : List (List UInt8)} {x : List UInt8} {l : List Ins} (h : ¬ (512 < L.length ∨ (x ≠ [] ∧ L.length = 512))) (hk : linesF L = (l, L.length)) (hx : x ≠ []) : parseL L x = ([], (L.length : Int) + 1, 21) := by unfold parseL; rw [if_neg h, hk, if_neg (by show ¬ L.length < L.length; omega), if_pos hx]
theorem parse_good {L : List (List UInt8)} {x : List UInt8} {l : List Ins} (h : ¬ (512 < L.length ∨ (x ≠ [] ∧ L.length = 512))) (hk : linesF L = (l, L.length)) (hx : x = []) : parseL L x = (l, 0, 0) := by unfold parseL; rw [if_neg h, hk, if_neg (by show ¬ L.length < L.length; omega), if_neg (by simp [hx])]
theorem ret_none {w w' : World} {R : List Ins × Int × Int} {a b : Int} (h : R = ([], a, b)) (hb : Below w.heap.size w w') : RetPar w R (.returned (.tuple #[.slice none 0 0, .int .i64 a, .int .i64 b])) w' := by
  subst h; exact ⟨none, 0, rfl, Nat.le_refl _, fun k i hk => by simp at hk, hb⟩
theorem ret_good {w w' : World} {R : List Ins × Int × Int} {l : List Ins} {v : Value} {base : Nat} (h : R = (l, 0, 0)) (ho : OwnIR base w' v l) (hb : Below w.heap.size w w') : RetPar w R (.returned (.tuple #[v, .int .i64 0, .int .i64 0])) w' := by
  obtain ⟨A, c, e1, e2, e3⟩ := ho.form
  subst h; subst e1; exact ⟨A, c, rfl, e2, e3, hb⟩
theorem single_at {w : World} {i : Ins} (hi : i.ok) : InsAt (w.alloc (.cells i.cells.toArray 50)) (some ⟨w.heap.size, 0, none⟩) [i] := by
  obtain ⟨A1, c1, e1, -, h1⟩ := (OwnIR.single (w := w) (i := i) hi).form
  injection e1 with e1
  rw [e1]; exact h1
theorem cnt_last {t : List UInt8} {b : UInt8} : ∀ {c : UInt8}, splF c (t ++ [b]) = if b = c then splF c t ++ [[]] else (splF c t).dropLast ++ [(splF c t).getLastD [] ++ [b]] := by
  intro c
  induction t with
  | nil =>
    by_cases h : b = c
    · subst h; rw [if_pos rfl]; show splF b [b] = _; rw [splF_hit]; rfl
    · rw [if_neg h]; show splF c [b] = _; rw [splF_miss h]; rfl
  | cons a t ih =>
    rw [List.cons_append]
    by_cases ha : a = c
    · subst ha
      rw [splF_hit, splF_hit, ih]
      split
      · rfl
      · obtain ⟨L, x, h⟩ := splF_end a t
        rw [h]
        show [] :: ((L ++ [x]).dropLast ++ _) = (([] :: L) ++ [x]).dropLast ++ [(([] :: L) ++ [x]).getLastD [] ++ [b]]
        rw [dropLast_snoc, getLast_snoc, dropLast_snoc, getLast_snoc]; rfl
    · rw [splF_miss ha, splF_miss ha, ih]
      obtain ⟨L, x, h⟩ := splF_end c t
      rw [h]
      cases L with
      | nil => split <;> simp
      | cons y L =>
        split
        · rfl
        · rw [dropLast_snoc, getLast_snoc]
          show (a :: y) :: (L ++ [x ++ [b]]) = (((a :: y) :: L) ++ [x]).dropLast ++ [(((a :: y) :: L) ++ [x]).getLastD [] ++ [b]]
          rw [dropLast_snoc, getLast_snoc]; rfl
theorem last_nil {t : List UInt8} {c : UInt8} {L : List (List UInt8)} {x : List UInt8} {b : UInt8} (h : splF c t = L ++ [x]) (hb : t[t.length - 1]? = some b) : x = [] ↔ b = c := by
  have hne : t ≠ [] := by rintro rfl; simp at hb
  have e := List.dropLast_concat_getLast hne
  have hlast : t.getLast hne = b := by
    rw [List.getLast_eq_getElem]
    rw [List.getElem?_eq_getElem (by have := List.length_pos_iff.2 hne; omega)] at hb
    injection hb
  rw [hlast] at e
  rw [← e, cnt_last] at h
  by_cases hbc : b = c
  · rw [if_pos hbc] at h
    have := congrArg (fun l => l.getLastD []) h
    simp only [getLast_snoc] at this
    exact ⟨fun _ => hbc, fun _ => this.symm⟩
  · rw [if_neg hbc] at h
    have := congrArg (fun l => l.getLastD []) h
    simp only [getLast_snoc] at this
    exact ⟨fun hx => by rw [hx] at this; simp at this, fun hx => absurd hx hbc⟩
set_option maxRecDepth 100000 in
set_option maxHeartbeats 8000000 in
theorem pr_Parse (t : List UInt8) (w : World) (hw : RdAt w) (ht : t.length ≤ 100000) : Calls Tryd.prog 9 #[.string (str t)] w (RetPar w (parseF t)) := by
  obtain ⟨L, x, hLx⟩ := splF_end 10 t
  have hmem : ∀ y ∈ L ++ [x], y.length ≤ 100000 := fun y hy => Nat.le_trans (splF_mem (c := 10) (s := t) y (by rw [hLx]; exact hy)) ht
  obtain ⟨n, hn⟩ : ∃ n, L.length = n := ⟨_, rfl⟩
  have hcnt : t.count 10 = n := by
    have h1 := splF_length 10 t
    rw [hLx, List.length_append] at h1
    simp at h1; omega
  have hnn : n ≤ 100000 := by
    have h2 : t.count 10 ≤ t.length := List.count_le_length
    omega
  obtain ⟨z, hz⟩ : ∃ z, t.length = z := ⟨_, rfl⟩
  have hzz : (str t).size = z := (str_size t).trans hz
  by_cases h0 : t = []
  · subst h0
    go_enter Tryd.func9, Tryd.ntmps9
    have hx1 : (str []).toList = [] := by rw [ByteArray.toList_eq]; rfl
    go_wp2_with fail
    go_ret3
    exact ret_none rfl (Below.refl _ _)
  have hz0 : 0 < z := by have := List.length_pos_iff.2 h0; omega
  obtain ⟨b, hb⟩ : ∃ b, t[z - 1]? = some b := ⟨_, List.getElem?_eq_getElem (by omega)⟩
  have hlb : x = [] ↔ b = 10 := last_nil hLx (by rw [hz]; exact hb)
  have CS : Hid (∀ w1, RdAt w1 → Calls Tryd.prog 24 #[.string (str t), .string ⟨#[10]⟩] w1 (RetStrs w1 (L ++ [x]))) := Lib.hid fun w1 h1 => by
    have h2 := lib_Split t 10 w1 h1 (by omega)
    rw [hLx] at h2
    exact h2.mono fun e w' ⟨A, e1, e2, e3⟩ => ⟨A, _, e1, Nat.le_refl _, e2, e3⟩
  have CC : Hid (∀ w1, Calls Tryd.prog 23 #[.string (str t), .string ⟨#[10]⟩] w1 fun e w' => e = .returned (.int .i64 (n : Int)) ∧ w1 = w') := Lib.hid fun w1 => (Tryd.strings_Count_one (str t) 10 w1).mono fun e w' ⟨h1, h2⟩ => ⟨by rw [h1, show Lib.countByte (str t).data.toList 10 = n from hcnt], h2.symm⟩
  rw [parse_eq hLx]
  obtain ⟨R, hR⟩ : ∃ R, parseL L x = R := ⟨_, rfl⟩
  rw [hR]
  have HRR := Lib.hid hR
  have HMM := Lib.hid hmem
  have HN := Lib.hid hn
  have HPL : Hid ((L ++ [x]).length = n + 1) := Lib.hid (by rw [List.length_append, hn]; rfl)
  have HRD := Lib.hid hw
  have hx1 : ¬ (str t).toList = [] := by rw [ByteArray.toList_eq]; exact h0
  have hx2 : (str t).toList.isEmpty = false := by cases e : (str t).toList with | nil => exact absurd e hx1 | cons => rfl
  obtain ⟨vb, hvb⟩ : ∃ v, (b.toNat : Int) = v := ⟨_, rfl⟩
  have HIX : Hid (∀ w, (Instr.index 9 (.string (str t)) (.int .i64 ((z - 1 : Nat) : Int))).run Tryd.prog w = .ok (.int .u8 vb) w) := Lib.hid fun w => by rw [← hvb]; exact run_ixS hb w
  have wz : IntKind.i64.wrap ((z : Int) - 1) = ((z - 1 : Nat) : Int) := (IntWalk.i64_in _ (by omega)).trans (by omega)
  have HLB : Hid (x = [] ↔ vb = 10) := Lib.hid (by rw [hlb, ← hvb]; exact ⟨fun h => by rw [h]; rfl, fun h => UInt8.toNat_inj.1 (by show b.toNat = 10; omega)⟩)
  obtain ⟨ts, hts⟩ : ∃ s, str t = s := ⟨_, rfl⟩
  rw [hts] at CS CC HIX hx1 hx2 hzz ⊢
  clear hR hmem hn hLx ht hw hcnt h0 hb hlb hz hvb hts
  go_enter Tryd.func9, Tryd.ntmps9
  go_upto_region 4 with (go_at_call 23; (with_reducible refine (CC.out _).mono ?_); rintro e1 w1 ⟨rfl, rfl⟩)
  have ix := HIX.out w
  go_upto_region 5 with fail
  clear ix hx1 hx2 HIX CC wz hzz hz0
  have key : (x = [] ∧ vb = 10) ∨ (x ≠ [] ∧ ¬ vb = 10) := by
    by_cases hx : x = []
    · exact .inl ⟨hx, HLB.out.1 hx⟩
    · exact .inr ⟨hx, fun h => hx (HLB.out.2 h)⟩
  have HNN : ∃ (N M : Nat) (W : Bool), (x = [] ∧ N = n ∧ W = true ∨ x ≠ [] ∧ N = n + 1 ∧ W = false) ∧ (vb = 10 ∧ W = true ∨ ¬ vb = 10 ∧ W = false) ∧ N ≤ 100001 ∧ (1 ≤ N → (M : Int) = (N : Int) - 1) := by
    rcases key with ⟨hx, h⟩ | ⟨hx, h⟩
    · exact ⟨n, n - 1, true, .inl ⟨hx, rfl, rfl⟩, .inl ⟨h, rfl⟩, by omega, fun _ => by omega⟩
    · exact ⟨n + 1, n, false, .inr ⟨hx, rfl, rfl⟩, .inr ⟨h, rfl⟩, by omega, fun _ => by omega⟩
  clear key HLB
  obtain ⟨N, M, W, hW, hV, hN0, hM⟩ := HNN
  have HW := Lib.hid hW
  have HM := Lib.hid hM
  clear hM
  rcases hV with ⟨rfl, rfl⟩ | ⟨hv, rfl⟩
  · obtain rfl : N = n := by rcases hW with ⟨_, h, _⟩ | ⟨_, _, h⟩; (· exact h); (· cases h)
    clear hW
    go_upto_region 7 with fail
    by_cases hbig : 512 < N
    · have q : (512 : Int) < (N : Int) := by omega
      have hr : parseL L x = ([], 0, 5) := parse_many (by
        rw [HN.out]
        rcases HW.out with ⟨_, h, _⟩ | ⟨h1, h, _⟩
        · exact .inl (by omega)
        · by_cases h5 : 512 < N
          · exact .inl h5
          · exact .inr ⟨h1, by omega⟩)
      go_wp2_with fail
      go_ret3
      exact ret_none (HRR.out.symm.trans hr) (Below.refl _ _)
    have q : ¬ (512 : Int) < (N : Int) := by omega
    have q' : (N : Int) ≤ 512 := by omega
    have HNB : Hid (¬ (512 < L.length ∨ (x ≠ [] ∧ L.length = 512))) := Lib.hid (by
      rw [HN.out]
      rcases HW.out with ⟨h1, h, _⟩ | ⟨h1, h, _⟩
      · rintro (h5 | ⟨h5, _⟩)
        · omega
        · exact h5 h1
      · rintro (h5 | ⟨_, h5⟩) <;> omega)
    have hbig' : N ≤ 512 := by omega
    clear hbig
    go_upto_region 10 with (go_at_call 24; (with_reducible refine (CS.out _ HRD.out).mono ?_); rintro e1 w1 ⟨A, c, rfl, hc, hA, hb1⟩; rw [HPL.out] at hc ⊢)
    have HB1 := Lib.hid hb1
    have HA := Lib.hid hA
    have HRD1 : Hid (RdAt w1) := Lib.hid (HRD.out.grow HB1.out)
    clear hb1 hA
    go_upto_region 11 with ((with_reducible show wpList _ _ _ (Oper.mk _ (.makeSlice _ _ _) _ _ _ _ :: _) _ _); refine mk_ins0 rfl _ _ rfl w1.heap.size N rfl rfl rfl (by omega) (Nat.le_refl _) ?_; intro w2 ho2 hb2)
    have HO2 := Lib.hid ho2
    have HB2 := Lib.hid hb2
    generalize (Value.slice (some ⟨w1.heap.size, 0, none⟩) 0 N) = v0 at HO2 ⊢
    clear ho2 hb2
    go_wp2_with fail
    go_loopw [8, 33] (fun o i wr => ∃ (k : Nat) (l : List Ins), k ≤ N ∧ k ≤ N ∧ i = .int .i64 k ∧ Hid (LinesTo L k l) ∧ Hid (OwnIR w1.heap.size wr o l) ∧ Hid (Below w1.heap.size w1 wr)) (fun o i _ => N - (intOf i).toNat)
    case atStart => exact ⟨0, [], Nat.zero_le _, Nat.zero_le _, rfl, Lib.hid (LinesTo.zero L), HO2, HB2⟩
    case round =>
      obtain ⟨k, l, hkn, hk, rfl, HL, HO, HB⟩ := hrel
      clear HO2 HB2
      by_cases hlt : k < N
      · have q1 : (k : Int) < (N : Int) := by omega
        have q0 : (0 : Int) ≤ (k : Int) := by omega
        have wk : IntKind.i64.wrap ((k : Int) + 1) = ((k + 1 : Nat) : Int) := (IntWalk.i64_in _ (by omega)).trans (by omega)
        have hm := HM.out (by omega)
        have wN : IntKind.i64.wrap ((N : Int) - 1) = (M : Int) := (IntWalk.i64_in _ (by omega)).trans (by omega)
        have hlen : (k : Int) < (N : Int) + 1 := by omega
        have hlen' : (k : Int) < ((N + 1 : Nat) : Int) := by omega
        obtain ⟨s, hs⟩ : ∃ s, (L ++ [x])[k]? = some s := ⟨_, List.getElem?_eq_getElem (by rw [HPL.out]; omega)⟩
        obtain ⟨ad2, rfl, hcs, hcb⟩ := (HA.out.grow HB.out) k s hs
        have hsl : s.length ≤ 100000 := HMM.out s (List.mem_of_getElem? hs)
        have HS := Lib.hid hs
        have HRDR : Hid (RdAt wr) := Lib.hid (HRD1.out.grow HB.out)
        have CI : Hid (∀ w1, RdAt w1 → Calls Tryd.prog 25 #[.string (str s)] w1 (RetIn w1 (instrF s))) := Lib.hid fun w1 h1 => by rw [← read_instr]; exact pr_read s w1 h1 hsl
        obtain ⟨Z, hZ⟩ : ∃ Z, instrF s = Z := ⟨_, rfl⟩
        rw [hZ] at CI
        have HZ := Lib.hid hZ
        generalize str s = ss at CI hcs
        clear hs hsl hZ
        by_cases hkl : k < N
        · have hLs : L[k]? = some s := by have := HS.out; rwa [List.getElem?_append_left (by rw [HN.out]; exact hkl)] at this
          cases Z with
          | none =>
            have hst := HL.out.stop hLs HZ.out
            have hpr := parse_stop HNB.out hst (by rw [HN.out]; exact hkl)
            clear hm wN
            go_wp2_with (first
              | (go_at_call 25; (with_reducible refine (CI.out _ HRDR.out).mono ?_); rintro e2 w2 ⟨i, hok, rfl, hij, hb2⟩)
              | ((with_reducible show wpList _ _ _ (Oper.mk _ (.store _ _ _) _ _ _ _ :: _) _ _); refine st_ins (w := w2.alloc (.cells Ins.zero.cells.toArray 50)) (g := w2.heap.size) (i := Ins.zero) (j := i) (Box.new rfl) rfl _ _ rfl rfl rfl ?_; intro W3 b3 p3))
            have hb3 := put_facts ((Below.refl w2.heap.size w2).alloc (Nat.le_refl _) (.cells Ins.zero.cells.toArray 50)) (Nat.le_refl _) p3
            go_ret3
            exact ret_none (HRR.out.symm.trans hpr) (below_then HB1.out (below_then (below_then HB.out hb2) hb3))
          | some i0 =>
            have hnx := HL.out.next hLs HZ.out
            go_upto_region 15 with (first
              | (go_at_call 25; (with_reducible refine (CI.out _ HRDR.out).mono ?_); rintro e2 w2 ⟨i, hok, rfl, hij, hb2⟩; have e3 := hij i0 rfl; clear hij; subst e3)
              | ((with_reducible show wpList _ _ _ (Oper.mk _ (.store _ _ _) _ _ _ _ :: _) _ _); refine st_ins (w := w2.alloc (.cells Ins.zero.cells.toArray 50)) (g := w2.heap.size) (i := Ins.zero) (j := i) (Box.new rfl) rfl _ _ rfl rfl rfl ?_; intro W3 b3 p3))
            have hb3 := put_facts ((Below.refl w2.heap.size w2).alloc (Nat.le_refl _) (.cells Ins.zero.cells.toArray 50)) (Nat.le_refl _) p3
            have HB3 := Lib.hid (below_then (below_then HB.out hb2) hb3)
            have HO3 := Lib.hid ((HO.out.grow hb2).grow hb3)
            have HI3 := Lib.hid b3
            have HOK := Lib.hid hok
            have HLE : Hid (l.length + 1 ≤ 100000000) := Lib.hid (by rw [HL.out.1]; omega)
            have HNX := Lib.hid hnx
            clear b3 p3 hb2 hb3 hok hnx
            generalize w2.heap.size = g9 at HI3 ⊢
            have hkk : k + 1 ≤ N := by omega
            have d0 : ∀ x : Bool, (x && false) = false := fun x => Bool.and_false x
            by_cases hkm : (k : Int) = (M : Int)
            all_goals
              go_wp2_with (first
                | ((with_reducible show wpList _ _ _ (Oper.mk _ (.load 50 _) _ _ _ _ :: _) _ _); refine ld_ins HI3.out rfl _ rfl rfl ?_)
                | ((with_reducible show wpList _ _ _ (Oper.mk _ (.buildSlice _ _ _) _ _ _ _ :: _) _ _); refine bld_ins1 (i := i) rfl _ rfl rfl ?_)
                | (at_builtin; refine app_ins _ rfl _ _ rfl w1.heap.size (m := [i]) rfl rfl (HO3.out.grow ((Below.refl _ _).alloc (Nat.le_refl _) _)) (single_at HOK.out) rfl HLE.out (Nat.le_trans HB3.out.size (by simp)) ?_; intro v4 w4 hown4 hb4))
              go_roundw
              case rel => exact ⟨k + 1, l ++ [i], by omega, by omega, by first | rfl | exact congrArg (Value.int .i64) (by omega), HNX, Lib.hid hown4, Lib.hid ((HB3.out.alloc HB3.out.size _).trans hb4)⟩
              case measure => simp [intOf]; omega
        · obtain rfl : k = N := by omega
          exfalso; rcases HW.out with ⟨_, h, _⟩ | ⟨_, _, h⟩; (· omega); (· cases h)
      · obtain rfl : k = N := by omega
        have hlo : ¬ (k : Int) < (k : Int) := by omega
        have hall : linesF L = (l, L.length) := LinesTo.all (by rw [HN.out]; exact HL.out)
        have hx : x = [] := by rcases HW.out with ⟨h, _, _⟩ | ⟨_, _, h⟩; (· exact h); (· cases h)
        have hpr := parse_good HNB.out hall hx
        go_wp2_with fail
        go_ret3
        exact ret_good (HRR.out.symm.trans hpr) HO.out (below_then HB1.out HB.out)
  · have hNe : N = n + 1 := by rcases hW with ⟨_, _, h⟩ | ⟨_, h, _⟩; (· cases h); (· exact h)
    have wn : IntKind.i64.wrap ((n : Int) + 1) = (N : Int) := (IntWalk.i64_in _ (by omega)).trans (by omega)
    clear hW hNe
    have hv2 : (vb == 10) = false := beq_eq_false_iff_ne.2 hv
    go_upto_region 7 with fail
    clear wn
    by_cases hbig : 512 < N
    · have q : (512 : Int) < (N : Int) := by omega
      have hr : parseL L x = ([], 0, 5) := parse_many (by
        rw [HN.out]
        rcases HW.out with ⟨_, h, _⟩ | ⟨h1, h, _⟩
        · exact .inl (by omega)
        · by_cases h5 : 512 < n
          · exact .inl h5
          · exact .inr ⟨h1, by omega⟩)
      go_wp2_with fail
      go_ret3
      exact ret_none (HRR.out.symm.trans hr) (Below.refl _ _)
    have q : ¬ (512 : Int) < (N : Int) := by omega
    have q' : (N : Int) ≤ 512 := by omega
    have HNB : Hid (¬ (512 < L.length ∨ (x ≠ [] ∧ L.length = 512))) := Lib.hid (by
      rw [HN.out]
      rcases HW.out with ⟨h1, h, _⟩ | ⟨h1, h, _⟩
      · rintro (h5 | ⟨h5, _⟩)
        · omega
        · exact h5 h1
      · rintro (h5 | ⟨_, h5⟩) <;> omega)
    have hbig' : N ≤ 512 := by omega
    clear hbig
    go_upto_region 10 with (go_at_call 24; (with_reducible refine (CS.out _ HRD.out).mono ?_); rintro e1 w1 ⟨A, c, rfl, hc, hA, hb1⟩; rw [HPL.out] at hc ⊢)
    have HB1 := Lib.hid hb1
    have HA := Lib.hid hA
    have HRD1 : Hid (RdAt w1) := Lib.hid (HRD.out.grow HB1.out)
    clear hb1 hA
    go_upto_region 11 with ((with_reducible show wpList _ _ _ (Oper.mk _ (.makeSlice _ _ _) _ _ _ _ :: _) _ _); refine mk_ins0 rfl _ _ rfl w1.heap.size N rfl rfl rfl (by omega) (Nat.le_refl _) ?_; intro w2 ho2 hb2)
    have HO2 := Lib.hid ho2
    have HB2 := Lib.hid hb2
    generalize (Value.slice (some ⟨w1.heap.size, 0, none⟩) 0 N) = v0 at HO2 ⊢
    clear ho2 hb2
    go_wp2_with fail
    go_loopw [8, 33] (fun o i wr => ∃ (k : Nat) (l : List Ins), k ≤ n ∧ k ≤ N ∧ i = .int .i64 k ∧ Hid (LinesTo L k l) ∧ Hid (OwnIR w1.heap.size wr o l) ∧ Hid (Below w1.heap.size w1 wr)) (fun o i _ => N - (intOf i).toNat)
    case atStart => exact ⟨0, [], Nat.zero_le _, Nat.zero_le _, rfl, Lib.hid (LinesTo.zero L), HO2, HB2⟩
    case round =>
      obtain ⟨k, l, hkn, hk, rfl, HL, HO, HB⟩ := hrel
      clear HO2 HB2
      by_cases hlt : k < N
      · have q1 : (k : Int) < (N : Int) := by omega
        have q0 : (0 : Int) ≤ (k : Int) := by omega
        have wk : IntKind.i64.wrap ((k : Int) + 1) = ((k + 1 : Nat) : Int) := (IntWalk.i64_in _ (by omega)).trans (by omega)
        have hm := HM.out (by omega)
        have wN : IntKind.i64.wrap ((N : Int) - 1) = (M : Int) := (IntWalk.i64_in _ (by omega)).trans (by omega)
        have hlen : (k : Int) < (n : Int) + 1 := by omega
        have hlen' : (k : Int) < ((n + 1 : Nat) : Int) := by omega
        obtain ⟨s, hs⟩ : ∃ s, (L ++ [x])[k]? = some s := ⟨_, List.getElem?_eq_getElem (by rw [HPL.out]; omega)⟩
        obtain ⟨ad2, rfl, hcs, hcb⟩ := (HA.out.grow HB.out) k s hs
        have hsl : s.length ≤ 100000 := HMM.out s (List.mem_of_getElem? hs)
        have HS := Lib.hid hs
        have HRDR : Hid (RdAt wr) := Lib.hid (HRD1.out.grow HB.out)
        have CI : Hid (∀ w1, RdAt w1 → Calls Tryd.prog 25 #[.string (str s)] w1 (RetIn w1 (instrF s))) := Lib.hid fun w1 h1 => by rw [← read_instr]; exact pr_read s w1 h1 hsl
        obtain ⟨Z, hZ⟩ : ∃ Z, instrF s = Z := ⟨_, rfl⟩
        rw [hZ] at CI
        have HZ := Lib.hid hZ
        generalize str s = ss at CI hcs
        clear hs hsl hZ
        by_cases hkl : k < n
        · have hLs : L[k]? = some s := by have := HS.out; rwa [List.getElem?_append_left (by rw [HN.out]; exact hkl)] at this
          cases Z with
          | none =>
            have hst := HL.out.stop hLs HZ.out
            have hpr := parse_stop HNB.out hst (by rw [HN.out]; exact hkl)
            clear hm wN
            go_wp2_with (first
              | (go_at_call 25; (with_reducible refine (CI.out _ HRDR.out).mono ?_); rintro e2 w2 ⟨i, hok, rfl, hij, hb2⟩)
              | ((with_reducible show wpList _ _ _ (Oper.mk _ (.store _ _ _) _ _ _ _ :: _) _ _); refine st_ins (w := w2.alloc (.cells Ins.zero.cells.toArray 50)) (g := w2.heap.size) (i := Ins.zero) (j := i) (Box.new rfl) rfl _ _ rfl rfl rfl ?_; intro W3 b3 p3))
            have hb3 := put_facts ((Below.refl w2.heap.size w2).alloc (Nat.le_refl _) (.cells Ins.zero.cells.toArray 50)) (Nat.le_refl _) p3
            go_ret3
            exact ret_none (HRR.out.symm.trans hpr) (below_then HB1.out (below_then (below_then HB.out hb2) hb3))
          | some i0 =>
            have hnx := HL.out.next hLs HZ.out
            go_upto_region 15 with (first
              | (go_at_call 25; (with_reducible refine (CI.out _ HRDR.out).mono ?_); rintro e2 w2 ⟨i, hok, rfl, hij, hb2⟩; have e3 := hij i0 rfl; clear hij; subst e3)
              | ((with_reducible show wpList _ _ _ (Oper.mk _ (.store _ _ _) _ _ _ _ :: _) _ _); refine st_ins (w := w2.alloc (.cells Ins.zero.cells.toArray 50)) (g := w2.heap.size) (i := Ins.zero) (j := i) (Box.new rfl) rfl _ _ rfl rfl rfl ?_; intro W3 b3 p3))
            have hb3 := put_facts ((Below.refl w2.heap.size w2).alloc (Nat.le_refl _) (.cells Ins.zero.cells.toArray 50)) (Nat.le_refl _) p3
            have HB3 := Lib.hid (below_then (below_then HB.out hb2) hb3)
            have HO3 := Lib.hid ((HO.out.grow hb2).grow hb3)
            have HI3 := Lib.hid b3
            have HOK := Lib.hid hok
            have HLE : Hid (l.length + 1 ≤ 100000000) := Lib.hid (by rw [HL.out.1]; omega)
            have HNX := Lib.hid hnx
            clear b3 p3 hb2 hb3 hok hnx
            generalize w2.heap.size = g9 at HI3 ⊢
            have hkk : k + 1 ≤ n := by omega
            have hkm : ¬ (k : Int) = (M : Int) := by rcases HW.out with ⟨_, _, h⟩ | ⟨_, h, _⟩; (· cases h); (· omega)
            all_goals
              go_wp2_with (first
                | ((with_reducible show wpList _ _ _ (Oper.mk _ (.load 50 _) _ _ _ _ :: _) _ _); refine ld_ins HI3.out rfl _ rfl rfl ?_)
                | ((with_reducible show wpList _ _ _ (Oper.mk _ (.buildSlice _ _ _) _ _ _ _ :: _) _ _); refine bld_ins1 (i := i) rfl _ rfl rfl ?_)
                | (at_builtin; refine app_ins _ rfl _ _ rfl w1.heap.size (m := [i]) rfl rfl (HO3.out.grow ((Below.refl _ _).alloc (Nat.le_refl _) _)) (single_at HOK.out) rfl HLE.out (Nat.le_trans HB3.out.size (by simp)) ?_; intro v4 w4 hown4 hb4))
              go_roundw
              case rel => exact ⟨k + 1, l ++ [i], by omega, by omega, by first | rfl | exact congrArg (Value.int .i64) (by omega), HNX, Lib.hid hown4, Lib.hid ((HB3.out.alloc HB3.out.size _).trans hb4)⟩
              case measure => simp [intOf]; omega
        · obtain rfl : k = n := by omega
          have hall : linesF L = (l, L.length) := LinesTo.all (by rw [HN.out]; exact HL.out)
          have hx : x ≠ [] := by rcases HW.out with ⟨_, _, h⟩ | ⟨h, _, _⟩; (· cases h); (· exact h)
          have hpr := parse_last HNB.out hall hx
          rw [HN.out] at hpr
          have hkm : M = k := by rcases HW.out with ⟨_, _, h⟩ | ⟨_, h, _⟩; (· cases h); (· omega)
          subst hkm
          cases Z with
          | none =>
            clear hm wN
            go_wp2_with (first
              | (go_at_call 25; (with_reducible refine (CI.out _ HRDR.out).mono ?_); rintro e2 w2 ⟨i, hok, rfl, hij, hb2⟩)
              | ((with_reducible show wpList _ _ _ (Oper.mk _ (.store _ _ _) _ _ _ _ :: _) _ _); refine st_ins (w := w2.alloc (.cells Ins.zero.cells.toArray 50)) (g := w2.heap.size) (i := Ins.zero) (j := i) (Box.new rfl) rfl _ _ rfl rfl rfl ?_; intro W3 b3 p3))
            have hb3 := put_facts ((Below.refl w2.heap.size w2).alloc (Nat.le_refl _) (.cells Ins.zero.cells.toArray 50)) (Nat.le_refl _) p3
            go_ret3
            exact ret_none (HRR.out.symm.trans hpr) (below_then HB1.out (below_then (below_then HB.out hb2) hb3))
          | some i0 =>
            clear hm
            go_wp2_with (first
              | (go_at_call 25; (with_reducible refine (CI.out _ HRDR.out).mono ?_); rintro e2 w2 ⟨i, hok, rfl, hij, hb2⟩; clear hij)
              | ((with_reducible show wpList _ _ _ (Oper.mk _ (.store _ _ _) _ _ _ _ :: _) _ _); refine st_ins (w := w2.alloc (.cells Ins.zero.cells.toArray 50)) (g := w2.heap.size) (i := Ins.zero) (j := i) (Box.new rfl) rfl _ _ rfl rfl rfl ?_; intro W3 b3 p3))
            have hb3 := put_facts ((Below.refl w2.heap.size w2).alloc (Nat.le_refl _) (.cells Ins.zero.cells.toArray 50)) (Nat.le_refl _) p3
            go_ret3
            exact ret_none (HRR.out.symm.trans hpr) (below_then HB1.out (below_then (below_then HB.out hb2) hb3))
      · obtain rfl : k = N := by omega
        have hlo : ¬ (k : Int) < (k : Int) := by omega
        exfalso; rcases HW.out with ⟨_, _, h⟩ | ⟨_, h, _⟩; (· cases h); (· omega)
end Go.Proofs.YtpdpcgeeneajjaaDoor
end
section
namespace Go.Proofs.YtpdpcgeeneajjaaDoor
def issF (t : Int × List Int) (i : Ins) : Int := rdF t.2 t.1 i.rd
def freeF (l : List Ins) (tk : List Bool) (k : Nat) : Bool := !(tk.getD k false) && (depRow l k k).all fun i => tk.getD i.toNat false
def betF (l : List Ins) (H : List Int) (t : Int × List Int) (b : Int × Int) (k : Nat) : Bool :=
  decide (b.1 < 0) || decide (issF t (l.getD k Ins.zero) < b.2) || (decide (issF t (l.getD k Ins.zero) = b.2) && decide (H.getD b.1.toNat 0 < H.getD k 0))
def stepB (l : List Ins) (H : List Int) (t : Int × List Int) (tk : List Bool) (b : Int × Int) (k : Nat) : Int × Int :=
  if freeF l tk k then (if betF l H t b k then ((k : Int), issF t (l.getD k Ins.zero)) else b) else b
def bestB (l : List Ins) (H : List Int) (t : Int × List Int) (tk : List Bool) (m : Nat) : Int × Int := (List.range m).foldl (stepB l H t tk) (-1, 0)
def grS (l : List Ins) (H : List Int) (s : List Bool × List Ins) : List Bool × List Ins :=
  (s.1.set (bestB l H (tmF s.2) s.1 l.length).1.toNat true, s.2 ++ [l.getD (bestB l H (tmF s.2) s.1 l.length).1.toNat Ins.zero])
def gr (l : List Ins) (H : List Int) : Nat → List Bool × List Ins
  | 0 => (List.replicate l.length false, [])
  | r + 1 => grS l H (gr l H r)
end Go.Proofs.YtpdpcgeeneajjaaDoor
end
section
namespace Go.Proofs.YtpdpcgeeneajjaaDoor
open Go.RowKit
def lenOf : Value → Nat
  | .slice _ n _ => n
  | _ => 0
end Go.Proofs.YtpdpcgeeneajjaaDoor
end
section
namespace Go.Proofs.YtpdpcgeeneajjaaDoor
open Go.RowKit
def litI (w : World) (l : List Ins) : World := w.alloc (.cells ((l.flatMap encI).map (Value.int .i64)).toArray 50)
theorem InsAt.lit {w : World} {l : List Ins} (hl : ∀ i ∈ l, i.ok) : InsAt (litI w l) (some ⟨w.heap.size, 0, none⟩) l := fun k i hk => by
  refine ⟨_, rfl, rfl, by unfold litI; simp, fun j v hj => ?_, hl i (List.mem_of_getElem? hk)⟩
  have hj4 : j < 4 := (List.getElem?_eq_some_iff.1 hj).1
  have hb := Box.new (w := w) (vs := ((l.flatMap encI).map (Value.int .i64)).toArray) (t := 50) (g := w.heap.size) rfl
  have h2 := hb.2.1 (k * 4 + j)
  rw [show (⟨w.heap.size, 0, none⟩ : Addr).off + k * 4 + j = k * 4 + j by show 0 + k * 4 + j = _; omega]
  exact h2.trans ((flatI_get hk hj4).trans hj)
theorem litI_below (w : World) (l : List Ins) : Below w.heap.size w (litI w l) := (Below.refl _ _).alloc (Nat.le_refl _) _
end Go.Proofs.YtpdpcgeeneajjaaDoor
end
section
namespace Go.Proofs.YtpdpcgeeneajjaaDoor
open Go.RowKit
end Go.Proofs.YtpdpcgeeneajjaaDoor
end
section
namespace Go.Proofs.YtpdpcgeeneajjaaDoor
open Go.RowKit
theorem flatI_set : ∀ (l : List Ins) (k : Nat) (i : Ins), (l.set k i).flatMap encI = ((((l.flatMap encI).set (k * 4) i.op).set (k * 4 + 1) i.a).set (k * 4 + 2) i.b).set (k * 4 + 3) i.imm
  | [], k, i => by simp
  | a :: l, 0, i => by simp [encI]
  | a :: l, k + 1, i => by
    rw [List.set_cons_succ, List.flatMap_cons, flatI_set l k i, List.flatMap_cons]
    show _ = (((([a.op, a.a, a.b, a.imm] ++ l.flatMap encI).set ((k + 1) * 4) i.op).set ((k + 1) * 4 + 1) i.a).set ((k + 1) * 4 + 2) i.b).set ((k + 1) * 4 + 3) i.imm
    rw [show (k + 1) * 4 = k * 4 + 1 + 1 + 1 + 1 by omega]
    simp [encI]
theorem OwnIR.block {base : Nat} {w : World} {g n c : Nat} {l : List Ins} (h : OwnIR base w (.slice (some ⟨g, 0, none⟩) n c) l) : base ≤ g ∧ g < w.heap.size := h.1.lt g rfl
theorem OwnIR.len {base : Nat} {w : World} {A : Option Addr} {n c : Nat} {l : List Ins} (h : OwnIR base w (.slice A n c) l) : n = l.length := by
  obtain ⟨A', c', e, -⟩ := own_form h.1
  injection e
theorem OwnIR.put {base : Nat} {w : World} {g n c : Nat} {l : List Ins} (h : OwnIR base w (.slice (some ⟨g, 0, none⟩) n c) l) (k : Nat) {i : Ins} (hi : i.ok) :
    OwnIR base (w.setCells g (k * 4) i.cells) (.slice (some ⟨g, 0, none⟩) n c) (l.set k i) := by
  have e2 := h.len
  subst e2
  have a0 := (h.1.stored (k * 4) (.int .i64 i.op)).1
  have a1 := (a0.stored (k * 4 + 1) (.int .i64 i.a)).1
  have a2 := (a1.stored (k * 4 + 2) (.int .i64 i.b)).1
  have a3 := (a2.stored (k * 4 + 3) (.int .i64 i.imm)).1
  refine ⟨by rw [List.length_set, flatI_set, List.map_set, List.map_set, List.map_set, List.map_set]; exact a3, fun q hq => ?_⟩
  rcases List.mem_or_eq_of_mem_set hq with hq | hq
  · exact h.2 q hq
  · subst hq; exact hi
theorem OwnIR.there {base : Nat} {w : World} {g n c : Nat} {l : List Ins} (h : OwnIR base w (.slice (some ⟨g, 0, none⟩) n c) l) {k : Nat} (hk : k < l.length) : w.there g (k * 4) 4 := by
  have e2 := h.len
  subst e2
  intro j hj
  refine ⟨?_, h.1.frozenAt _⟩
  rw [h.1.cellAt (k * 4 + j) (by omega), flatI_get (List.getElem?_eq_getElem hk) hj]
  show ((l[k].cells)[j]?).isSome = true
  match j, hj with
  | 0, _ | 1, _ | 2, _ | 3, _ => rfl
end Go.Proofs.YtpdpcgeeneajjaaDoor
end
section
set_option maxRecDepth 100000
namespace Go.Proofs.YtpdpcgeeneajjaaDoor
open Go.Joins Go.ChangeShapes Go.WideShapes Go.RowKit Go.Deep
theorem get_lt {α : Type} {l : List α} {n i : Nat} (h : l.length = n) (hi : i < n) : ∃ x, l[i]? = some x := ⟨_, List.getElem?_eq_getElem (h ▸ hi)⟩
end Go.Proofs.YtpdpcgeeneajjaaDoor
end
section
set_option maxRecDepth 100000
namespace Go.Proofs.YtpdpcgeeneajjaaDoor
open Go.Joins Go.ChangeShapes Go.WideShapes Go.RowKit
theorem trod_Ints {H : Type} {enc : TypeId × Value → H} {w : World} {base fuel : Nat} {spare : Nat → Bool} {held : Bool} {v : Value} {y : DataW H × List MemPlace}
    (hf : DataW.trod enc Tryd.prog w base spare held fuel 32 [v] = some y) :
    ∃ u : Option Addr × Nat × List Int, v = .slice u.1 u.2.2.length u.2.1 ∧ (Ints w u.1 u.2.2 ∧ u.2.2.length ≤ 9223372036854775807) := by
  rcases open_ints Tryd.underlying32 Tryd.underlying3 (by kernel_rfl) hf with ⟨hcs, _⟩ | ⟨x, l, c, zs, hcs, _, hl, hm, hz, _, hcell, hwz⟩
  · simp at hcs
    subst hcs
    exact ⟨⟨none, 0, []⟩, rfl, Ints.nil, by simp⟩
  · simp at hcs
    subst hcs
    have hlz : l ≤ zs.length := by rw [hz]; split <;> omega
    have hlen : (zs.take l).length = l := by simp; omega
    refine ⟨⟨some x, c, zs.take l⟩, by rw [hlen], ⟨fun k v hk => ?_, fun y hy => i64_of_wf (hwz y (List.mem_of_mem_take hy))⟩, by rw [hlen]; unfold maxLen at hm; omega⟩
    rw [List.getElem?_map] at hk
    cases hx : (zs.take l)[k]? with
    | none => rw [hx] at hk; cases hk
    | some q =>
      rw [hx] at hk
      simp only [Option.map_some, Option.some.injEq] at hk
      subst hk
      have hkl : k < l := by
        have := (List.getElem?_eq_some_iff.1 hx).1
        omega
      rw [List.getElem?_take_of_lt hkl] at hx
      have hc := hcell k (by omega)
      rw [List.getD_eq_getElem?_getD, hx] at hc
      have hb := cell_lt hc
      rw [block_add] at hb
      exact ⟨x, rfl, hb, hc⟩
end Go.Proofs.YtpdpcgeeneajjaaDoor
end
