/- Decode of the reference. -/
import Derived.Test.YtpdpcgeeneajjaaDoorsRytoE19
import Derived.Deep.RegionHeld3
set_option linter.unusedVariables false
set_option linter.unusedSimpArgs false
namespace Go.Proofs.YtpdpcgeeneajjaaDoor
open Go.RowKit
def BytesAt (w : World) (A : Option Addr) (l : List Int) : Prop :=
  ∀ k x, l[k]? = some x → (∃ ad : Addr, A = some ad ∧ w.cell? (ad.add k) = some (.int .u8 x) ∧ ad.block < w.heap.size) ∧ 0 ≤ x ∧ x < 256
theorem BytesAt.grow {w w' : World} {A : Option Addr} {l : List Int} (h : BytesAt w A l) (hb : Below w.heap.size w w') : BytesAt w' A l := fun k x hk => by
  obtain ⟨⟨ad, e, h1, h2⟩, h3⟩ := h k x hk
  exact ⟨⟨ad, e, (hb.cell (p := ad.add k) (by rw [block_add]; exact h2)).trans h1, Nat.lt_of_lt_of_le h2 hb.size⟩, h3⟩
theorem eight {l : List Int} {k : Nat} (h : k + 8 ≤ l.length) : ∃ b0 b1 b2 b3 b4 b5 b6 b7, l.drop k = b0 :: b1 :: b2 :: b3 :: b4 :: b5 :: b6 :: b7 :: l.drop (k + 8) ∧ l[k]? = some b0 ∧ l[k + 1]? = some b1 ∧ l[k + 2]? = some b2 ∧ l[k + 3]? = some b3 ∧ l[k + 4]? = some b4 ∧ l[k + 5]? = some b5 ∧ l[k + 6]? = some b6 ∧ l[k + 7]? = some b7 := by
  refine ⟨l[k], l[k + 1], l[k + 2], l[k + 3], l[k + 4], l[k + 5], l[k + 6], l[k + 7], ?_, List.getElem?_eq_getElem _, List.getElem?_eq_getElem _, List.getElem?_eq_getElem _, List.getElem?_eq_getElem _, List.getElem?_eq_getElem _, List.getElem?_eq_getElem _, List.getElem?_eq_getElem _, List.getElem?_eq_getElem _⟩
  rw [List.drop_eq_getElem_cons (by omega : k < l.length), List.drop_eq_getElem_cons (by omega : k + 1 < l.length), List.drop_eq_getElem_cons (by omega : k + 1 + 1 < l.length), List.drop_eq_getElem_cons (by omega : k + 1 + 1 + 1 < l.length), List.drop_eq_getElem_cons (by omega : k + 1 + 1 + 1 + 1 < l.length), List.drop_eq_getElem_cons (by omega : k + 1 + 1 + 1 + 1 + 1 < l.length), List.drop_eq_getElem_cons (by omega : k + 1 + 1 + 1 + 1 + 1 + 1 < l.length), List.drop_eq_getElem_cons (by omega : k + 1 + 1 + 1 + 1 + 1 + 1 + 1 < l.length)]
theorem three_b {w w' : World} {a b c : Addr} {x y z : Value} (hb : Below w.heap.size w w') (h : w.cell? a = some x ∧ w.cell? b = some y ∧ w.cell? c = some z) : w'.cell? a = some x ∧ w'.cell? b = some y ∧ w'.cell? c = some z := ⟨cell_b hb h.1, cell_b hb h.2.1, cell_b hb h.2.2⟩
def DecTo (l : List Int) (k : Nat) (P : List Ins) : Prop := decL l = (decL (l.drop k)).map (P ++ ·)
theorem DecTo.zero (l : List Int) : DecTo l 0 [] := by
  show decL l = (decL l).map ([] ++ ·)
  cases decL l <;> rfl
theorem DecTo.next {l : List Int} {k : Nat} {P : List Ins} {b0 b1 b2 b3 b4 b5 b6 b7 : Int} (h : DecTo l k P) (hd : l.drop k = b0 :: b1 :: b2 :: b3 :: b4 :: b5 :: b6 :: b7 :: l.drop (k + 8)) (h3 : b3 = 0) (hf : (eightI b0 b1 b2 b4 b5 b6 b7).formed = true) : DecTo l (k + 8) (P ++ [eightI b0 b1 b2 b4 b5 b6 b7]) := by
  unfold DecTo at h ⊢
  rw [h, hd]
  conv => lhs; unfold decL
  rw [if_pos ⟨h3, hf⟩]
  cases decL (l.drop (k + 8)) with
  | none => rfl
  | some Q => simp
theorem DecTo.stop {l : List Int} {k : Nat} {P : List Ins} {b0 b1 b2 b3 b4 b5 b6 b7 : Int} (h : DecTo l k P) (hd : l.drop k = b0 :: b1 :: b2 :: b3 :: b4 :: b5 :: b6 :: b7 :: l.drop (k + 8)) (hf : ¬ (b3 = 0 ∧ (eightI b0 b1 b2 b4 b5 b6 b7).formed = true)) : decL l = none := by
  unfold DecTo at h
  rw [h, hd]
  conv => lhs; unfold decL
  rw [if_neg hf]; rfl
theorem DecTo.all {l : List Int} {P : List Ins} (h : DecTo l l.length P) : decL l = some P := by
  unfold DecTo at h
  rw [List.drop_length] at h
  rw [h]
  show some (P ++ []) = _
  rw [List.append_nil]
theorem dec_many {l : List Int} (h : 4096 < l.length) : decE l = 5 ∧ decI l = [] := by
  have : decE l = 5 := by unfold decE; rw [if_pos h]
  exact ⟨this, by unfold decI; rw [this]; rfl⟩
theorem dec_odd {l : List Int} (h : ¬ 4096 < l.length) (h8 : l.length % 8 ≠ 0) : decE l = 21 ∧ decI l = [] := by
  have : decE l = 21 := by unfold decE; rw [if_neg h, if_pos h8]
  exact ⟨this, by unfold decI; rw [this]; rfl⟩
theorem dec_none {l : List Int} (h : ¬ 4096 < l.length) (h8 : l.length % 8 = 0) (hd : decL l = none) : decE l = 21 ∧ decI l = [] := by
  have : decE l = 21 := by unfold decE; rw [if_neg h, if_neg (by omega), hd]
  exact ⟨this, by unfold decI; rw [this]; rfl⟩
theorem dec_some {l : List Int} {P : List Ins} (h : ¬ 4096 < l.length) (h8 : l.length % 8 = 0) (hd : decL l = some P) : decE l = 0 ∧ decI l = P := by
  have : decE l = 0 := by unfold decE; rw [if_neg h, if_neg (by omega), hd]
  exact ⟨this, by unfold decI; rw [if_pos this, hd]; rfl⟩
def RetDec (w : World) (l : List Ins) (E : Int) (e : Ending) (w' : World) : Prop := ∃ v, e = .returned (.tuple #[v, .int .i64 E]) ∧ OwnIR w.heap.size w' v l ∧ Below w.heap.size w w'
theorem eight_ok {b0 b1 b2 b4 b5 b6 b7 : Int} (h0 : 0 ≤ b0 ∧ b0 < 256) (h1 : 0 ≤ b1 ∧ b1 < 256) (h2 : 0 ≤ b2 ∧ b2 < 256) (h4 : 0 ≤ b4 ∧ b4 < 256) (h5 : 0 ≤ b5 ∧ b5 < 256) (h6 : 0 ≤ b6 ∧ b6 < 256) (h7 : 0 ≤ b7 ∧ b7 < 256) : (eightI b0 b1 b2 b4 b5 b6 b7).ok := by
  unfold Ins.ok eightI wordI I64
  refine ⟨?_, ?_, ?_, ?_⟩ <;> constructor <;> simp only <;> first | omega | (split <;> omega)
set_option maxRecDepth 100000 in
set_option maxHeartbeats 8000000 in
theorem r38_Decode (A : Option Addr) (n c : Nat) (l : List Int) (w : World) (h : BytesAt w A l) (hn : l.length = n) (h9 : n ≤ 9223372036854775807) : Calls Tryd.prog 8 #[.slice A n c] w (RetDec w (decI l) (decE l)) := by
  have HI := Lib.hid h
  have HN := Lib.hid hn
  clear h hn
  by_cases hbig : 4096 < n
  · obtain ⟨e1, e2⟩ := dec_many (l := l) (by rw [HN.out]; exact hbig)
    rw [e1, e2]
    have q : (4096 : Int) < (n : Int) := by omega
    clear e1 e2
    go_enter Tryd.func8, Tryd.ntmps8
    go_wp2_with fail
    go_ret2
    exact ⟨_, rfl, OwnIR.nil, Below.refl _ _⟩
  have q : ¬ (4096 : Int) < (n : Int) := by omega
  have hn4 : n ≤ 4096 := by omega
  by_cases h8 : n % 8 ≠ 0
  · obtain ⟨e1, e2⟩ := dec_odd (l := l) (by rw [HN.out]; exact hbig) (by rw [HN.out]; exact h8)
    rw [e1, e2]
    obtain ⟨m, hm⟩ : ∃ m, (n : Int).tmod 8 = m := ⟨_, rfl⟩
    have hm0 : m ≠ 0 := by rw [← hm, Int.tmod_eq_emod_of_nonneg (by omega)]; omega
    clear e1 e2
    go_enter Tryd.func8, Tryd.ntmps8
    go_wp2_with fail
    go_ret2
    exact ⟨_, rfl, OwnIR.nil, Below.refl _ _⟩
  replace h8 : n % 8 = 0 := by omega
  have hm : (n : Int).tmod 8 = 0 := by rw [Int.tmod_eq_emod_of_nonneg (by omega)]; omega
  obtain ⟨E, hE⟩ : ∃ E, decE l = E := ⟨_, rfl⟩
  obtain ⟨D, hD⟩ : ∃ D, decI l = D := ⟨_, rfl⟩
  rw [hE, hD]
  have HE := Lib.hid hE
  have HD := Lib.hid hD
  have HB4 : Hid (¬ 4096 < l.length) := Lib.hid (by rw [HN.out]; exact hbig)
  have H8 : Hid (l.length % 8 = 0) := Lib.hid (by rw [HN.out]; exact h8)
  have H8n := Lib.hid h8
  clear hE hD hbig h8
  go_enter Tryd.func8, Tryd.ntmps8
  go_wp2_with fail
  clear hm
  go_loopw [4, 5] (fun o i wr => ∃ (k : Nat) (P : List Ins), k ≤ n ∧ i = .int .i64 k ∧ Hid (k % 8 = 0) ∧ Hid (P.length ≤ k) ∧ Hid (DecTo l k P) ∧ Hid (OwnIR w.heap.size wr o P) ∧ Hid (Below w.heap.size w wr)) (fun o i _ => n - (intOf i).toNat)
  case atStart => exact ⟨0, [], Nat.zero_le _, rfl, Lib.hid rfl, Lib.hid (Nat.le_refl _), Lib.hid (DecTo.zero l), Lib.hid OwnIR.nil, Lib.hid (Below.refl _ _)⟩
  case round =>
    obtain ⟨k, P, hk, rfl, HK8, HPL, HDT, HO, HB⟩ := hrel
    by_cases hlt : k < n
    · have hk8 : k + 8 ≤ n := by have := HK8.out; have := H8n.out; omega
      obtain ⟨b0, b1, b2, b3, b4, b5, b6, b7, hd, g0, g1, g2, g3, g4, g5, g6, g7⟩ := eight (l := l) (k := k) (by rw [HN.out]; exact hk8)
      have HA := HI.out.grow HB.out
      obtain ⟨⟨ad, rfl, c0, hcb⟩, r0⟩ := HA _ _ g0
      obtain ⟨⟨ad1, e1, c1, -⟩, r1⟩ := HA _ _ g1
      obtain ⟨⟨ad2, e2, c2, -⟩, r2⟩ := HA _ _ g2
      obtain ⟨⟨ad3, e3, c3, -⟩, r3⟩ := HA _ _ g3
      obtain ⟨⟨ad4, e4, c4, -⟩, r4⟩ := HA _ _ g4
      obtain ⟨⟨ad5, e5, c5, -⟩, r5⟩ := HA _ _ g5
      obtain ⟨⟨ad6, e6, c6, -⟩, r6⟩ := HA _ _ g6
      obtain ⟨⟨ad7, e7, c7, -⟩, r7⟩ := HA _ _ g7
      injection e1 with e1; injection e2 with e2; injection e3 with e3; injection e4 with e4; injection e5 with e5; injection e6 with e6; injection e7 with e7
      subst e1; subst e2; subst e3; subst e4; subst e5; subst e6; subst e7
      have HD8 := Lib.hid hd
      clear hd g0 g1 g2 g3 g4 g5 g6 g7 HA
      have q1 : (k : Int) < (n : Int) := by omega
      have q0 : (0 : Int) ≤ (k : Int) := by omega
      have wk8 : IntKind.i64.wrap ((k : Int) + 8) = ((k + 8 : Nat) : Int) := (IntWalk.i64_in _ (by omega)).trans (by omega)
      obtain ⟨i1, hi1⟩ : ∃ j, k + 1 = j := ⟨_, rfl⟩
      rw [hi1] at c1
      have wk1 : IntKind.i64.wrap ((k : Int) + 1) = (i1 : Int) := (IntWalk.i64_in _ (by omega)).trans (by omega)
      have l1 : (i1 : Int) < (n : Int) := by omega
      have m1 : (0 : Int) ≤ (i1 : Int) := by omega
      clear hi1
      obtain ⟨i2, hi2⟩ : ∃ j, k + 2 = j := ⟨_, rfl⟩
      rw [hi2] at c2
      have wk2 : IntKind.i64.wrap ((k : Int) + 2) = (i2 : Int) := (IntWalk.i64_in _ (by omega)).trans (by omega)
      have l2 : (i2 : Int) < (n : Int) := by omega
      have m2 : (0 : Int) ≤ (i2 : Int) := by omega
      clear hi2
      obtain ⟨i3, hi3⟩ : ∃ j, k + 3 = j := ⟨_, rfl⟩
      rw [hi3] at c3
      have wk3 : IntKind.i64.wrap ((k : Int) + 3) = (i3 : Int) := (IntWalk.i64_in _ (by omega)).trans (by omega)
      have l3 : (i3 : Int) < (n : Int) := by omega
      have m3 : (0 : Int) ≤ (i3 : Int) := by omega
      clear hi3
      obtain ⟨i4, hi4⟩ : ∃ j, k + 4 = j := ⟨_, rfl⟩
      rw [hi4] at c4
      have wk4 : IntKind.i64.wrap ((k : Int) + 4) = (i4 : Int) := (IntWalk.i64_in _ (by omega)).trans (by omega)
      have l4 : (i4 : Int) < (n : Int) := by omega
      have m4 : (0 : Int) ≤ (i4 : Int) := by omega
      clear hi4
      obtain ⟨i5, hi5⟩ : ∃ j, k + 5 = j := ⟨_, rfl⟩
      rw [hi5] at c5
      have wk5 : IntKind.i64.wrap ((k : Int) + 5) = (i5 : Int) := (IntWalk.i64_in _ (by omega)).trans (by omega)
      have l5 : (i5 : Int) < (n : Int) := by omega
      have m5 : (0 : Int) ≤ (i5 : Int) := by omega
      clear hi5
      obtain ⟨i6, hi6⟩ : ∃ j, k + 6 = j := ⟨_, rfl⟩
      rw [hi6] at c6
      have wk6 : IntKind.i64.wrap ((k : Int) + 6) = (i6 : Int) := (IntWalk.i64_in _ (by omega)).trans (by omega)
      have l6 : (i6 : Int) < (n : Int) := by omega
      have m6 : (0 : Int) ≤ (i6 : Int) := by omega
      clear hi6
      obtain ⟨i7, hi7⟩ : ∃ j, k + 7 = j := ⟨_, rfl⟩
      rw [hi7] at c7
      have wk7 : IntKind.i64.wrap ((k : Int) + 7) = (i7 : Int) := (IntWalk.i64_in _ (by omega)).trans (by omega)
      have l7 : (i7 : Int) < (n : Int) := by omega
      have m7 : (0 : Int) ≤ (i7 : Int) := by omega
      clear hi7
      have v4 : IntKind.i64.wrap b4 = b4 := IntWalk.i64_in _ (by omega)
      have v5 : IntKind.i64.wrap b5 = b5 := IntWalk.i64_in _ (by omega)
      have v6 : IntKind.i64.wrap b6 = b6 := IntWalk.i64_in _ (by omega)
      have v7 : IntKind.i64.wrap b7 = b7 := IntWalk.i64_in _ (by omega)
      have s5 : IntKind.i64.wrap (b5 * 256) = b5 * 256 := IntWalk.i64_in _ (by omega)
      have s6 : IntKind.i64.wrap (b6 * 65536) = b6 * 65536 := IntWalk.i64_in _ (by omega)
      have s7 : IntKind.i64.wrap (b7 * 16777216) = b7 * 16777216 := IntWalk.i64_in _ (by omega)
      obtain ⟨U5, hU5⟩ : ∃ u, b4 + b5 * 256 = u := ⟨_, rfl⟩
      obtain ⟨U6, hU6⟩ : ∃ u, U5 + b6 * 65536 = u := ⟨_, rfl⟩
      obtain ⟨U, hU⟩ : ∃ u, U6 + b7 * 16777216 = u := ⟨_, rfl⟩
      have a5 : IntKind.i64.wrap (b4 + b5 * 256) = U5 := by rw [hU5]; exact IntWalk.i64_in _ (by omega)
      have a6 : IntKind.i64.wrap (U5 + b6 * 65536) = U6 := by rw [hU6]; exact IntWalk.i64_in _ (by omega)
      have a7 : IntKind.i64.wrap (U6 + b7 * 16777216) = U := by rw [hU]; exact IntWalk.i64_in _ (by omega)
      have hUb : 0 ≤ U ∧ U < 4294967296 := by omega
      have HU : Hid (b4 + b5 * 256 + b6 * 65536 + b7 * 16777216 = U) := Lib.hid (by rw [hU5, hU6, hU])
      clear hU5 hU6 hU
      go_upto_region 9 with fail
      have hS0 : wr.drew.cell? (ad.add i4) = some (.int .u8 b4) ∧ wr.drew.cell? (ad.add i5) = some (.int .u8 b5) ∧ wr.drew.cell? (ad.add i6) = some (.int .u8 b6) ∧ wr.drew.cell? (ad.add i7) = some (.int .u8 b7) := ⟨cell_b ((Below.refl _ _).drew) c4, cell_b ((Below.refl _ _).drew) c5, cell_b ((Below.refl _ _).drew) c6, cell_b ((Below.refl _ _).drew) c7⟩
      go_region_held3 (fun w' => w'.cell? (ad.add i4) = some (.int .u8 b4) ∧ w'.cell? (ad.add i5) = some (.int .u8 b5) ∧ w'.cell? (ad.add i6) = some (.int .u8 b6) ∧ w'.cell? (ad.add i7) = some (.int .u8 b7)) (exact hS0) (fail)
      clear hS0 v4 v5 v6 v7 s5 s6 s7 a5 a6 a7 wk4 wk5 wk6 wk7
      obtain ⟨V, hV⟩ : ∃ v, wordI U = v := ⟨_, rfl⟩
      have HI8 : Hid (eightI b0 b1 b2 b4 b5 b6 b7 = ⟨b0, b1, b2, V⟩) := Lib.hid (by unfold eightI; rw [HU.out, hV])
      have HOK : Hid (eightI b0 b1 b2 b4 b5 b6 b7).ok := Lib.hid (eight_ok r0 r1 r2 r4 r5 r6 r7)
      rw [HI8.out] at HOK
      have v0 : IntKind.i64.wrap b0 = b0 := IntWalk.i64_in _ (by omega)
      have v1 : IntKind.i64.wrap b1 = b1 := IntWalk.i64_in _ (by omega)
      have v2 : IntKind.i64.wrap b2 = b2 := IntWalk.i64_in _ (by omega)
      have key : (2147483648 ≤ U ∧ IntKind.i64.wrap (U - 4294967296) = V) ∨ (¬ 2147483648 ≤ U ∧ U = V) := by
        unfold wordI at hV
        by_cases h : 2147483648 ≤ U
        · rw [if_pos h] at hV
          exact .inl ⟨h, (IntWalk.i64_in _ (by omega)).trans hV⟩
        · rw [if_neg h] at hV
          exact .inr ⟨h, hV⟩
      clear hV hUb
      have HB1 : Hid (Below w.heap.size w wr.drew) := Lib.hid HB.out.drew
      have HO1 : Hid (OwnIR w.heap.size wr.drew u4 P) := Lib.hid (HO.out.grow ((Below.refl _ _).drew))
      have d0 : wr.drew.cell? (ad.add k) = some (.int .u8 b0) := cell_b ((Below.refl _ _).drew) c0
      have d1 : wr.drew.cell? (ad.add i1) = some (.int .u8 b1) := cell_b ((Below.refl _ _).drew) c1
      have d2 : wr.drew.cell? (ad.add i2) = some (.int .u8 b2) := cell_b ((Below.refl _ _).drew) c2
      have d3 : wr.drew.cell? (ad.add i3) = some (.int .u8 b3) := cell_b ((Below.refl _ _).drew) c3
      have hbl : ad.block < wr.drew.heap.size := by simpa using hcb
      clear c0 c1 c2 c3 c4 c5 c6 c7 hcb
      generalize wr.drew = W1 at HB1 HO1 d0 d1 d2 d3 hbl ⊢
      have hS0 : W1.drew.cell? (ad.add k) = some (.int .u8 b0) ∧ W1.drew.cell? (ad.add i1) = some (.int .u8 b1) ∧ W1.drew.cell? (ad.add i2) = some (.int .u8 b2) := ⟨cell_b ((Below.refl _ _).drew) d0, cell_b ((Below.refl _ _).drew) d1, cell_b ((Below.refl _ _).drew) d2⟩
      rcases key with ⟨hu, wu⟩ | ⟨hu, hv⟩
      rotate_left
      · replace hv := hv.symm
        subst hv
        go_upto_region 12 with fail
        go_region_held3 (fun w' => w'.cell? (ad.add k) = some (.int .u8 b0) ∧ w'.cell? (ad.add i1) = some (.int .u8 b1) ∧ w'.cell? (ad.add i2) = some (.int .u8 b2)) (first | exact hS0 | exact three_b ((Below.refl _ _).alloc (Nat.le_refl _) _) hS0) (fail)
        clear hS0 d0 d1 d2 v0 v1 v2 wk1 wk2
        have HX := Lib.hid (Box.new (w := W1) (t := 50) (vs := #[.int .i64 b0, .int .i64 b1, .int .i64 b2, .int .i64 V]) rfl).drew
        have HW2 : Hid (Below W1.heap.size W1 (W1.alloc (.cells #[.int .i64 b0, .int .i64 b1, .int .i64 b2, .int .i64 V] 50)).drew) := Lib.hid ((Below.refl _ _).alloc (Nat.le_refl _) _).drew
        have d3' := cell_b HW2.out d3
        generalize (W1.alloc (.cells #[.int .i64 b0, .int .i64 b1, .int .i64 b2, .int .i64 V] 50)).drew = W2 at HX HW2 d3' ⊢
        have HB2 := Lib.hid (HB1.out.trans (HW2.out.mono HB1.out.size))
        have HO2 := Lib.hid (HO1.out.grow HW2.out)
        clear d3
        generalize W1.heap.size = g7 at HX ⊢
        obtain ⟨z0, z1, z2, z3⟩ : W2.cell? ⟨g7, 0, none⟩ = some (.int .i64 b0) ∧ W2.cell? ⟨g7, 1, none⟩ = some (.int .i64 b1) ∧ W2.cell? ⟨g7, 2, none⟩ = some (.int .i64 b2) ∧ W2.cell? ⟨g7, 3, none⟩ = some (.int .i64 V) := ⟨HX.out.2.1 0, HX.out.2.1 1, HX.out.2.1 2, HX.out.2.1 3⟩
        obtain ⟨x, hx⟩ : ∃ x, (⟨b0, b1, b2, V⟩ : Ins).formed = x := ⟨_, rfl⟩
        have CF : Hid (∀ w1, Calls Tryd.prog 22 #[.agg #[.int .i64 b0, .int .i64 b1, .int .i64 b2, .int .i64 V]] w1 fun e w' => e = .returned (.bool x) ∧ Below w1.heap.size w1 w') := Lib.hid fun w1 => by rw [← hx]; exact r38_Formed ⟨b0, b1, b2, V⟩ w1 HOK.out
        by_cases hb3 : b3 = 0
        · subst hb3
          have HXX : Hid ((eightI b0 b1 b2 b4 b5 b6 b7).formed = x) := Lib.hid (by rw [HI8.out]; exact hx)
          clear hx
          cases x with
          | false =>
            have hst := HDT.out.stop HD8.out (by rw [HXX.out]; simp)
            obtain ⟨e1, e2⟩ := dec_none HB4.out H8.out hst
            rw [HE.out] at e1
            rw [HD.out] at e2
            subst e1
            subst e2
            go_wp2_with (go_at_call 22; (with_reducible refine (CF.out _).mono ?_); rintro e1 w3 ⟨rfl, hb3⟩)
            go_ret2
            exact ⟨_, rfl, OwnIR.nil, HB2.out.trans (hb3.mono HB2.out.size)⟩
          | true =>
            have HNX := Lib.hid (HDT.out.next HD8.out rfl HXX.out)
            have HLE : Hid (P.length + 1 ≤ 100000000) := Lib.hid (by have := HPL.out; omega)
            go_upto_region 15 with (go_at_call 22; (with_reducible refine (CF.out _).mono ?_); rintro e1 w3 ⟨rfl, hb3⟩)
            have HB3 := Lib.hid (HB2.out.trans (hb3.mono HB2.out.size))
            have HO3 := Lib.hid (HO2.out.grow hb3)
            have HX3 : Hid (Box w3 g7 (⟨b0, b1, b2, V⟩ : Ins).cells) := Lib.hid (HX.out.keep hb3)
            clear z0 z1 z2 z3 d3' hb3
            go_wp2_with (first
              | ((with_reducible show wpList _ _ _ (Oper.mk _ (.load 50 _) _ _ _ _ :: _) _ _); refine ld_ins HX3.out rfl _ rfl rfl ?_)
              | ((with_reducible show wpList _ _ _ (Oper.mk _ (.buildSlice _ _ _) _ _ _ _ :: _) _ _); refine bld_ins1 (i := ⟨b0, b1, b2, V⟩) rfl _ rfl rfl ?_)
              | (at_builtin; refine app_ins _ rfl _ _ rfl w.heap.size (m := [⟨b0, b1, b2, V⟩]) rfl rfl (HO3.out.grow ((Below.refl _ _).alloc (Nat.le_refl _) _)) (single_at HOK.out) rfl HLE.out (Nat.le_trans HB3.out.size (by simp)) ?_; intro v4 w4 hown4 hb4))
            go_roundw
            case rel => exact ⟨k + 8, P ++ [⟨b0, b1, b2, V⟩], by omega, rfl, Lib.hid (by have := HK8.out; omega), Lib.hid (by rw [List.length_append]; have := HPL.out; simp; omega), Lib.hid (by have := HNX.out; rwa [HI8.out] at this), Lib.hid hown4, Lib.hid ((HB3.out.alloc HB3.out.size _).trans hb4)⟩
            case measure => simp [intOf]; omega
        · have hst := HDT.out.stop HD8.out (fun h => hb3 h.1)
          obtain ⟨e1, e2⟩ := dec_none HB4.out H8.out hst
          rw [HE.out] at e1
          rw [HD.out] at e2
          subst e1
          subst e2
          have hb3' : (b3 == 0) = false := beq_eq_false_iff_ne.2 hb3
          go_wp2_with fail
          go_ret2
          exact ⟨_, rfl, OwnIR.nil, HB2.out⟩
      · go_upto_region 12 with fail
        go_region_held3 (fun w' => w'.cell? (ad.add k) = some (.int .u8 b0) ∧ w'.cell? (ad.add i1) = some (.int .u8 b1) ∧ w'.cell? (ad.add i2) = some (.int .u8 b2)) (first | exact hS0 | exact three_b ((Below.refl _ _).alloc (Nat.le_refl _) _) hS0) (fail)
        clear hS0 d0 d1 d2 v0 v1 v2 wk1 wk2
        have HX := Lib.hid (Box.new (w := W1) (t := 50) (vs := #[.int .i64 b0, .int .i64 b1, .int .i64 b2, .int .i64 V]) rfl).drew
        have HW2 : Hid (Below W1.heap.size W1 (W1.alloc (.cells #[.int .i64 b0, .int .i64 b1, .int .i64 b2, .int .i64 V] 50)).drew) := Lib.hid ((Below.refl _ _).alloc (Nat.le_refl _) _).drew
        have d3' := cell_b HW2.out d3
        generalize (W1.alloc (.cells #[.int .i64 b0, .int .i64 b1, .int .i64 b2, .int .i64 V] 50)).drew = W2 at HX HW2 d3' ⊢
        have HB2 := Lib.hid (HB1.out.trans (HW2.out.mono HB1.out.size))
        have HO2 := Lib.hid (HO1.out.grow HW2.out)
        clear d3
        generalize W1.heap.size = g7 at HX ⊢
        obtain ⟨z0, z1, z2, z3⟩ : W2.cell? ⟨g7, 0, none⟩ = some (.int .i64 b0) ∧ W2.cell? ⟨g7, 1, none⟩ = some (.int .i64 b1) ∧ W2.cell? ⟨g7, 2, none⟩ = some (.int .i64 b2) ∧ W2.cell? ⟨g7, 3, none⟩ = some (.int .i64 V) := ⟨HX.out.2.1 0, HX.out.2.1 1, HX.out.2.1 2, HX.out.2.1 3⟩
        obtain ⟨x, hx⟩ : ∃ x, (⟨b0, b1, b2, V⟩ : Ins).formed = x := ⟨_, rfl⟩
        have CF : Hid (∀ w1, Calls Tryd.prog 22 #[.agg #[.int .i64 b0, .int .i64 b1, .int .i64 b2, .int .i64 V]] w1 fun e w' => e = .returned (.bool x) ∧ Below w1.heap.size w1 w') := Lib.hid fun w1 => by rw [← hx]; exact r38_Formed ⟨b0, b1, b2, V⟩ w1 HOK.out
        by_cases hb3 : b3 = 0
        · subst hb3
          have HXX : Hid ((eightI b0 b1 b2 b4 b5 b6 b7).formed = x) := Lib.hid (by rw [HI8.out]; exact hx)
          clear hx
          cases x with
          | false =>
            have hst := HDT.out.stop HD8.out (by rw [HXX.out]; simp)
            obtain ⟨e1, e2⟩ := dec_none HB4.out H8.out hst
            rw [HE.out] at e1
            rw [HD.out] at e2
            subst e1
            subst e2
            go_wp2_with (go_at_call 22; (with_reducible refine (CF.out _).mono ?_); rintro e1 w3 ⟨rfl, hb3⟩)
            go_ret2
            exact ⟨_, rfl, OwnIR.nil, HB2.out.trans (hb3.mono HB2.out.size)⟩
          | true =>
            have HNX := Lib.hid (HDT.out.next HD8.out rfl HXX.out)
            have HLE : Hid (P.length + 1 ≤ 100000000) := Lib.hid (by have := HPL.out; omega)
            go_upto_region 15 with (go_at_call 22; (with_reducible refine (CF.out _).mono ?_); rintro e1 w3 ⟨rfl, hb3⟩)
            have HB3 := Lib.hid (HB2.out.trans (hb3.mono HB2.out.size))
            have HO3 := Lib.hid (HO2.out.grow hb3)
            have HX3 : Hid (Box w3 g7 (⟨b0, b1, b2, V⟩ : Ins).cells) := Lib.hid (HX.out.keep hb3)
            clear z0 z1 z2 z3 d3' hb3
            go_wp2_with (first
              | ((with_reducible show wpList _ _ _ (Oper.mk _ (.load 50 _) _ _ _ _ :: _) _ _); refine ld_ins HX3.out rfl _ rfl rfl ?_)
              | ((with_reducible show wpList _ _ _ (Oper.mk _ (.buildSlice _ _ _) _ _ _ _ :: _) _ _); refine bld_ins1 (i := ⟨b0, b1, b2, V⟩) rfl _ rfl rfl ?_)
              | (at_builtin; refine app_ins _ rfl _ _ rfl w.heap.size (m := [⟨b0, b1, b2, V⟩]) rfl rfl (HO3.out.grow ((Below.refl _ _).alloc (Nat.le_refl _) _)) (single_at HOK.out) rfl HLE.out (Nat.le_trans HB3.out.size (by simp)) ?_; intro v4 w4 hown4 hb4))
            go_roundw
            case rel => exact ⟨k + 8, P ++ [⟨b0, b1, b2, V⟩], by omega, rfl, Lib.hid (by have := HK8.out; omega), Lib.hid (by rw [List.length_append]; have := HPL.out; simp; omega), Lib.hid (by have := HNX.out; rwa [HI8.out] at this), Lib.hid hown4, Lib.hid ((HB3.out.alloc HB3.out.size _).trans hb4)⟩
            case measure => simp [intOf]; omega
        · have hst := HDT.out.stop HD8.out (fun h => hb3 h.1)
          obtain ⟨e1, e2⟩ := dec_none HB4.out H8.out hst
          rw [HE.out] at e1
          rw [HD.out] at e2
          subst e1
          subst e2
          have hb3' : (b3 == 0) = false := beq_eq_false_iff_ne.2 hb3
          go_wp2_with fail
          go_ret2
          exact ⟨_, rfl, OwnIR.nil, HB2.out⟩
    · obtain rfl : k = n := by omega
      have hlo : ¬ (k : Int) < (k : Int) := by omega
      have hall : decL l = some P := DecTo.all (by rw [HN.out]; exact HDT.out)
      obtain ⟨e1, e2⟩ := dec_some HB4.out H8.out hall
      rw [HE.out] at e1
      rw [HD.out] at e2
      subst e1
      subst e2
      go_wp2_with fail
      go_ret2
      exact ⟨_, rfl, HO.out, HB.out⟩
end Go.Proofs.YtpdpcgeeneajjaaDoor
