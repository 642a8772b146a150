/- The walk of the law Phases. -/
import Derived.Test.YthalkhpdcijlkaaMp2
namespace Go.Proofs.Ythalkhpdcijlkaa
open Go.RowKit

theorem mr_Join_own (A B : Option Addr) (h g : List Int) (c d : Nat) (w : World) (l1 : h.length ≤ 49) (l2 : g.length ≤ 49) (h1 : ∀ x ∈ h, -16777216 ≤ x ∧ x ≤ 16777216) (h2 : ∀ x ∈ g, -16777216 ≤ x ∧ x ≤ 16777216) (hh : Ints w A h) (hg : Ints w B g) :
    Calls Try.prog 23 #[.slice A h.length c, .slice B g.length d] w (RetInts w (joinF h g) 0) := by
  refine (mr_Join A B h g c d w (by omega) (by omega) hh hg).mono fun e w' q => ?_
  obtain ⟨e1, e2⟩ := join_ok l1 l2 h1 h2
  rw [e1, e2] at q
  exact q
set_option maxRecDepth 100000 in
set_option maxHeartbeats 400000 in
theorem law_MultiratePhases (u v : Option Addr × Nat × List Int) (m0 : Int) (w : World) (hu : Ints w u.1 u.2.2 ∧ u.2.2.length ≤ 9223372036854775807) (hv : Ints w v.1 v.2.2 ∧ v.2.2.length ≤ 9223372036854775807) (_ : I64 m0) :
    Calls Try.prog 6 #[.slice u.1 u.2.2.length u.2.1, .slice v.1 v.2.2.length v.2.1, .int .i64 m0] w fun e w' => e = .returned (.bool true) ∧ Below w.heap.size w w' := by
  obtain ⟨A, c, h⟩ := u
  obtain ⟨B, d, x⟩ := v
  obtain ⟨hh, hhl⟩ := hu
  obtain ⟨hx, hxl⟩ := hv
  simp only at hh hhl hx hxl ⊢
  have hb := Below.refl w.heap.size w
  by_cases hlong : 12 < h.length ∨ 12 < x.length
  · go_enter Try.func6, Try.ntmps6
    go_wp2_with (go_at_call 8; refine (known32 _).mono ?_; rintro e w1 ⟨rfl, hb1⟩; have hb := below_then hb hb1)
    all_goals try (exfalso; omega)
    all_goals go_ret
    all_goals exact ⟨rfl, hb⟩
  obtain ⟨g1, g2⟩ := within_in (m := 6) (by decide) m0
  obtain ⟨n, hn⟩ : ∃ n, withinF m0 6 = n := ⟨_, rfl⟩
  rw [hn] at g1 g2
  obtain ⟨m, hm⟩ := Int.eq_ofNat_of_zero_le (by omega : 0 ≤ 1 + n)
  have m1 : 1 ≤ m := by omega
  have m2 : m ≤ 6 := by omega
  have l1 : h.length ≤ 12 := by omega
  have l2 : x.length ≤ 12 := by omega
  obtain ⟨a, ha⟩ : ∃ a, belowF 1048576 h h.length = a := ⟨_, rfl⟩
  obtain ⟨b, hb'⟩ : ∃ b, belowF 1048576 x x.length = b := ⟨_, rfl⟩
  have la : a.length = h.length := by rw [← ha]; exact belowF_length _ _ _
  have lb : b.length = x.length := by rw [← hb']; exact belowF_length _ _ _
  have ina : ∀ y ∈ a, -16777216 ≤ y ∧ y ≤ 16777216 := fun y hy => by have := below_in (bound := 1048576) (by decide) h h.length y (by rw [ha]; exact hy); omega
  have inb : ∀ y ∈ b, -16777216 ≤ y ∧ y ≤ 16777216 := fun y hy => by have := below_in (bound := 1048576) (by decide) x x.length y (by rw [hb']; exact hy); omega
  have INA := Lib.hid ina
  have INB := Lib.hid inb
  have HA := Lib.hid ha
  have HB := Lib.hid hb'
  have aL : a.length ≤ 12 := by omega
  have bL : b.length ≤ 12 := by omega
  have HM := Lib.hid hm
  have hm1 : (m : Int) ≤ 1 + n := by omega
  have hm2 : 1 + n ≤ (m : Int) := by omega
  clear ina inb ha hb' hlong hm la lb
  --@1
  go_enter Try.func6, Try.ntmps6
  --@2
  go_wp2_with (go_at_call 7; refine (wd_Within _ _ _ (by omega)).mono ?_; rintro e w' ⟨rfl, rfl⟩)
  all_goals try (exfalso; omega)
  refine (wd_Below 1048576 A h c h.length _ (by decide) (by decide) (by omega) hh).mono ?_
  rintro e w1 ⟨v1, rfl, ho1, hb1⟩
  rw [HA.out] at ho1
  obtain ⟨A1, c1, rfl, _, hi1⟩ := ho1.form
  have hb := below_then hb hb1
  have hx := hx.grow hb1
  clear hb1 ho1 hh
  --@3
  go_wp2_with fail
  refine (wd_Below 1048576 B x d x.length _ (by decide) (by decide) (by omega) hx).mono ?_
  rintro e w2 ⟨v2, rfl, ho2, hb2⟩
  rw [HB.out] at ho2
  obtain ⟨A2, c2, rfl, _, hi2⟩ := ho2.form
  have hb := below_then hb hb2
  have hi1 := hi1.grow hb2
  clear hb2 ho2 hx
  --@4
  go_wp2_with fail
  refine (mr_Phases_ok A1 a c1 m (1 + n) _ HM.out m1 (by omega) (by omega) hi1).mono ?_
  rintro e w3 ⟨A3, c3, rfl, hi3, hb3⟩
  have hb := below_then hb hb3
  have hi1 := hi1.grow hb3
  have hi2 := hi2.grow hb3
  clear hb3
  --@5
  go_wp2_with fail
  refine (mr_Merge_back A3 a c3 m _ m1 (by omega) (by omega) hi3).mono ?_
  rintro e w4 ⟨A4, c4, rfl, hi4, hb4⟩
  have hb := below_then hb hb4
  have hi1 := hi1.grow hb4
  have hi2 := hi2.grow hb4
  have hi3 := hi3.grow hb4
  clear hb4
  --@6
  go_wp2_with fail
  all_goals try (exfalso; omega)
  refine (rf_Same A4 A1 _ _ c4 c1 _ (by omega) rfl hi4 hi1).mono ?_
  rintro e w5 ⟨rfl, hb5⟩
  have hb := below_then hb hb5
  have hi1 := hi1.grow hb5
  have hi2 := hi2.grow hb5
  have hi3 := hi3.grow hb5
  clear hb5 hi4
  --@7
  go_wp2_with fail
  refine (mr_Join_ok A1 A2 a b c1 c2 _ (by omega) (by omega) INA.out INB.out hi1 hi2).mono ?_
  rintro e w6 ⟨A6, c6, rfl, hi6, hb6⟩
  have hb := below_then hb hb6
  have hi1 := hi1.grow hb6
  have hi2 := hi2.grow hb6
  have hi3 := hi3.grow hb6
  clear hb6
  obtain ⟨N, hN⟩ : ∃ N, (joinF a b).length = N := ⟨_, rfl⟩
  have hNb : N ≤ 100 := by rw [← hN, joinF_length]; unfold joinLen; split <;> omega
  have HN := Lib.hid hN
  rw [hN]
  have hN1 : N ≤ 100000000 := by omega
  clear hN
  rcases ‹(m : Int) = 1 + n› with -
  go_wp2_with (at_make; refine mk_int rfl _ _ rfl w6.heap.size N rfl rfl rfl hN1 (Nat.le_refl _) ?_; intro w7 hown7 hb7)
  have hg : w6.heap.size < w7.heap.size := hown7.block.2
  have hown0 : Own w6.heap.size w7 (.slice (some ⟨w6.heap.size, 0, none⟩) N N) (psN a b m 0 0) := by rw [psN_zero, ← joinF_length, HN.out]; exact hown7
  clear hown7 hg
  --@9
  go_loopw [16, 17, 18, 19, 20, 21] (fun i _ _ _ _ _ wr => ∃ I : Nat, I ≤ m ∧ i = .int .i64 I ∧ Own w6.heap.size wr (.slice (some ⟨w6.heap.size, 0, none⟩) N N) (psN a b m I 0) ∧ Below w6.heap.size w6 wr) (fun i _ _ _ _ _ _ => m - (intOf i).toNat)
  case atStart => exact ⟨0, Nat.zero_le _, rfl, hown0, hb7⟩
  case round =>
    obtain ⟨I, hI, rfl, hown, hbw⟩ := hrel
    have hi2 := hi2.grow hbw
    have hi3 := hi3.grow hbw
    have hi6 := hi6.grow hbw
    by_cases hlt : I < m
    · obtain ⟨ad, q, Bq, cq, rfl, hbq, hq, hcq, hiq⟩ := hi3.at_ (by rw [phF_length]; exact hlt)
      rw [phF_at hlt] at hq
      injection hq with hq
      have hrow := psN_row (a := a) (b := b) (m := m) I
      have hpl := part_len (a := a) (b := b) (I := I) m1
      have hwl := wide_len (a := a) (I := I) m1
      have hwi := wide_in (I := I) m1 (by decide) INA.out
      have hjb := joinF_bound hwi INB.out (by omega)
      have hsucc : ∀ t s y, (joinF (expF (everyF a I m) m) b)[t]? = some y → (psN a b m I t)[I + t]? = some s → psN a b m I (t + 1) = (psN a b m I t).set (I + t) (s + y) := fun t s y h1 h2 => psN_succ h1 h2
      have hpb : ∀ t s, (psN a b m I t)[I + t]? = some s → -4000000000000000000 ≤ s ∧ s ≤ 4000000000000000000 := fun t s h1 => psN_bound m1 INA.out INB.out (by omega) (by omega) h1
      have hel : (everyF a I m).length ≤ 12 := by
        have : (everyF a I m).length = cnt a.length I m := everyN_length _ _ _ _
        have := cnt_le a.length I m m1
        omega
      rw [hq] at hrow hpl hwl hwi hjb hsucc hel
      obtain ⟨W, hW⟩ : ∃ W, expF q m = W := ⟨_, rfl⟩
      rw [hW] at hrow hpl hwl hwi hjb hsucc
      have hcj : ∀ (w : World) (A B : Option Addr) (c d : Nat), Ints w A W → Ints w B b → Calls Try.prog 23 #[.slice A W.length c, .slice B b.length d] w (RetInts w (joinF W b) 0) := fun w A B c d h1 h2 =>
        mr_Join_own A B W b c d w (by omega) (by omega) hwi INB.out h1 h2
      obtain ⟨P, hP⟩ : ∃ P, joinF W b = P := ⟨_, rfl⟩
      rw [hP] at hrow hpl hjb hsucc hcj
      have hce := mr_Expand_ok Bq q cq m (1 + n) wr HM.out m1 (by omega) (by omega) hiq
      rw [hW] at hce
      have hN2 : joinLen a b = N := by rw [← joinF_length]; exact HN.out
      rw [hN2] at hpl
      have HR := Lib.hid hrow
      have HJB := Lib.hid hjb
      have HSU := Lib.hid hsucc
      have HPB := Lib.hid hpb
      have HCJ := Lib.hid hcj
      have HN2 := Lib.hid hN2
      clear hrow hjb hsucc hpb hcj hq hW hP hwi hN2
      have hpl' : I + P.length ≤ N ∨ P.length = 0 := by omega
      clear hpl
      go_wp2_with fail
      refine hce.mono ?_
      clear hce
      rintro e w8 ⟨A8, c8, rfl, hi8, hb8⟩
      have hbw := below_then hbw hb8
      have hi2 := hi2.grow hb8
      have hown := hown.grow hb8
      have hg8 := hown.block.2
      clear hb8 hiq hcq hi3
      go_wp2_with fail
      refine (HCJ.out _ A8 A2 c8 c2 hi8 hi2).mono ?_
      rintro e w9 ⟨v9, rfl, ho9, hb9⟩
      have hbw := below_then hbw hb9
      have hown := hown.grow hb9
      obtain ⟨A9, c9, rfl, _, _⟩ := ho9.form
      clear hb9 hi8 hi2
      go_wp2
      all_goals try (exfalso; omega)
      all_goals
        go_loopw [21] (fun i wr2 => ∃ J : Nat, J ≤ P.length ∧ i = .int .i64 J ∧ Own w6.heap.size wr2 (.slice (some ⟨w6.heap.size, 0, none⟩) N N) (psN a b m I J) ∧ Below w6.heap.size w6 wr2 ∧ Own w8.heap.size wr2 (.slice A9 P.length c9) P) (fun i _ => P.length - (intOf i).toNat)
        case atStart => exact ⟨0, Nat.zero_le _, rfl, hown, hbw, ho9⟩
        case round =>
          obtain ⟨J, hJ, rfl, hown2, hbw2, ho9'⟩ := hrel
          by_cases hlt2 : J < P.length
          · first
            | (exfalso; omega)
            | (obtain ⟨A9', c9', e9, _, hi9⟩ := ho9'.form
               injection e9 with e9 _ e10
               subst e9 e10
               obtain ⟨ad2, y, rfl, bb, hbb, cb, b1, b2⟩ := hi9.at_ hlt2
               obtain ⟨b3, b4⟩ := HJB.out y (List.mem_of_getElem? hbb)
               obtain ⟨s, hs⟩ : ∃ s, (psN a b m I J)[I + J]? = some s := ⟨_, List.getElem?_eq_getElem (by rw [psN_length, HN2.out]; omega)⟩
               obtain ⟨s1, s2⟩ := HPB.out J s hs
               have HS := Lib.hid (HSU.out J s y hbb hs)
               have cs := hown2.cell hs
               have cf := hown2.free (I + J)
               have HSET := Lib.hid (hown2.set (I + J) (y := s + y) ⟨by omega, by omega⟩)
               have HST := Lib.hid (ho9'.store (k := I + J) (u := .int .i64 (s + y)) hg8)
               clear hbb hs hown2 ho9' hi9
               have hbd : I + J < N := by omega
               go_wp2
               go_region
               go_wp2
               go_roundw
               case rel => exact ⟨J + 1, by omega, by go_num, by rw [HS.out]; exact ⟨HSET.out.1.drew, HSET.out.2⟩, Below.drew (below_set (k := I + J) (u := .int .i64 (s + y)) hbw2 (Nat.le_refl _)), ⟨HST.out.1.drew, HST.out.2⟩⟩
               case measure => simp [intOf]; omega)
          · obtain rfl : J = P.length := by omega
            rw [HR.out] at hown2
            go_wp2
            all_goals try (exfalso; omega)
            go_roundw
            case rel => exact ⟨I + 1, by omega, by go_num, hown2, hbw2⟩
            case measure => simp [intOf]; omega
    · obtain rfl : I = m := by omega
      rw [psN_all m1] at hown
      have hl7 : (joinF a b).length = N := HN.out
      have hl8 : (joinF a b).length ≤ 9223372036854775807 := by omega
      have hi7' : Ints wr (some ⟨w6.heap.size, 0, none⟩) (joinF a b) := by
        obtain ⟨A7, c7, e7, _, hi7⟩ := hown.form
        injection e7 with e7
        rw [e7]; exact hi7
      have hsame := fun w0 h1 h2 => rf_Same (some ⟨w6.heap.size, 0, none⟩) A6 (joinF a b) (joinF a b) N c6 w0 hl8 rfl h1 h2
      rw [hl7] at hsame
      have HSAME := Lib.hid hsame
      have hb := below_then hb hbw
      clear hsame hl7 hi1 hi2 hi3
      go_wp2_with fail
      refine (known32 _).mono ?_
      rintro e x1 ⟨rfl, hb1⟩
      have hb := below_then hb hb1
      have hi6 := hi6.grow hb1
      have hi7 := hi7'.grow hb1
      clear hb1
      go_wp2_with fail
      refine (HSAME.out _ hi7 hi6).mono ?_
      rintro e x2 ⟨rfl, hb1⟩
      have hb := below_then hb hb1
      go_wp2
      go_ret
      exact ⟨rfl, hb⟩
end Go.Proofs.Ythalkhpdcijlkaa
