/- Several texts in one: Ru Rv L4 E7 Ql E11 E12 E13. -/
import Derived.Test.YtpdpcgeeneajjaaDoorsL3toRq
import Derived.Test.YtpdpcgeeneajjaaDoorsE3toL1
import Derived.Laws.EntriesVeiled
import Derived.Test.YtpdpcgeeneajjaaDoorsPltoK
import Derived.Test.YtpdpcgeeneajjaaDoorsQtoU3
import Derived.Maps.AppendAt
import Derived.Deep.RegionHeld3
import Derived.Lib.MinMax
set_option linter.unusedVariables false
set_option linter.unusedSimpArgs false
section
namespace Go.Proofs.YtpdpcgeeneajjaaDoor
open Go.RowKit
def RetStrs (w : World) (L : List (List UInt8)) (e : Ending) (w' : World) : Prop := ∃ A c, e = .returned (.slice A L.length c) ∧ L.length ≤ c ∧ StrsAt w' A L ∧ Below w.heap.size w w'
theorem mem_take_snoc {l : List UInt8} {f k : Nat} {b : UInt8} (hfk : f ≤ k) (hb : l[k]? = some b) : (l.drop f).take (k + 1 - f) = (l.drop f).take (k - f) ++ [b] := by
  rw [show k + 1 - f = (k - f) + 1 by omega, List.take_add_one, List.getElem?_drop, show f + (k - f) = k by omega, hb]
  rfl
theorem drop_part {l : List UInt8} {f k : Nat} {b : UInt8} (hfk : f ≤ k) (hb : l[k]? = some b) : l.drop f = (l.drop f).take (k - f) ++ b :: l.drop (k + 1) := by
  have h1 : l.drop f = (l.drop f).take (k - f) ++ (l.drop f).drop (k - f) := (List.take_append_drop _ _).symm
  rw [List.drop_drop, show f + (k - f) = k by omega] at h1
  obtain ⟨hlt, hg⟩ := List.getElem?_eq_some_iff.1 hb
  rw [List.drop_eq_getElem_cons hlt, hg] at h1
  exact h1
theorem spl_step {l : List UInt8} {f k : Nat} {c : UInt8} (hfk : f ≤ k) (hb : l[k]? = some c) (hm : ∀ b ∈ (l.drop f).take (k - f), b ≠ c) : splF c (l.drop f) = (l.drop f).take (k - f) :: splF c (l.drop (k + 1)) := by
  have h1 := drop_part hfk hb
  conv => lhs; rw [h1]
  exact splF_part hm _
theorem mem_step {l : List UInt8} {f k : Nat} {b c : UInt8} (hfk : f ≤ k) (hb : l[k]? = some b) (hm : ∀ b ∈ (l.drop f).take (k - f), b ≠ c) (hbc : b ≠ c) : ∀ x ∈ (l.drop f).take (k + 1 - f), x ≠ c := by
  rw [mem_take_snoc hfk hb]
  intro x hx
  rcases List.mem_append.1 hx with hx | hx
  · exact hm x hx
  · rw [List.mem_singleton.1 hx]; exact hbc
set_option maxRecDepth 100000 in
set_option maxHeartbeats 4000000 in
theorem r38_split (l : List UInt8) (c : UInt8) (w : World) (hs : l.length ≤ 1000000) : Calls Tryd.prog 26 #[.string (str l), .int .u8 (c.toNat : Int)] w (RetStrs w (splF c l)) := by
  obtain ⟨n, hn⟩ : ∃ n, l.length = n := ⟨_, rfl⟩
  rw [hn] at hs
  have hz : (str l).size = n := (str_size l).trans hn
  have HN := Lib.hid hn
  clear hn
  go_enter Tryd.func26, Tryd.ntmps26
  go_wp2_with fail
  go_loopw [5, 6, 7] (fun o f i wr => ∃ (k fr : Nat) (P : List (List UInt8)), k ≤ n ∧ fr ≤ k ∧ f = .int .i64 fr ∧ i = .int .i64 k ∧ Hid (P.length ≤ fr) ∧ Hid (splF c l = P ++ splF c (l.drop fr)) ∧ Hid (∀ b ∈ (l.drop fr).take (k - fr), b ≠ c) ∧ Hid (OwnS w.heap.size wr o P) ∧ Hid (Below w.heap.size w wr)) (fun o f i _ => n - (intOf i).toNat)
  case atStart => exact ⟨0, 0, [], Nat.zero_le _, Nat.le_refl _, rfl, rfl, Lib.hid (Nat.zero_le _), Lib.hid rfl, Lib.hid (by simp), Lib.hid OwnS.nil, Lib.hid (Below.refl _ _)⟩
  case round =>
    obtain ⟨k, fr, P, hk, hfk, rfl, rfl, HP, HS, HM, HO, HB⟩ := hrel
    by_cases hlt : k < n
    · obtain ⟨b, hb⟩ : ∃ b, l[k]? = some b := ⟨_, List.getElem?_eq_getElem (by rw [HN.out]; exact hlt)⟩
      have HBB := Lib.hid hb
      clear hb
      have q1 : (k : Int) < (n : Int) := by omega
      have wk : IntKind.i64.wrap ((k : Int) + 1) = ((k + 1 : Nat) : Int) := (IntWalk.i64_in _ (by omega)).trans (by omega)
      obtain ⟨vb, hvb⟩ : ∃ v, (b.toNat : Int) = v := ⟨_, rfl⟩
      by_cases hbc : b = c
      · subst hbc
        have HK : Hid (k ≤ l.length) := Lib.hid (by rw [HN.out]; omega)
        have HP2 : Hid (P.length < 100000000) := Lib.hid (by have := HP.out; omega)
        rw [hvb]
        have HVB := Lib.hid hvb
        clear hvb
        go_wp2_with (first
          | ((with_reducible show wpList _ _ _ (Oper.mk _ (.index _ _ _) _ _ _ _ :: _) _ _); refine wp_ixS rfl _ _ rfl l k _ HBB.out rfl rfl ?_; rw [HVB.out])
          | ((with_reducible show wpList _ _ _ (Oper.mk _ (.slice _ _ _ _ _) _ _ _ _ :: _) _ _); refine wp_slS rfl _ _ _ rfl l fr k hfk HK.out rfl rfl rfl ?_)
          | (at_builtin; refine app_str wr rfl _ _ rfl w.heap.size HO.out rfl rfl HP2.out HB.out.size ?_; intro v1 w1 hown1 hbel1))
        go_roundw
        case rel => exact ⟨k + 1, k + 1, P ++ [(l.drop fr).take (k - fr)], by omega, Nat.le_refl _, rfl, rfl, Lib.hid (by rw [List.length_append]; have := HP.out; simp; omega), Lib.hid (by rw [HS.out, spl_step hfk HBB.out HM.out, List.append_assoc]; rfl), Lib.hid (by simp), Lib.hid hown1, Lib.hid (HB.out.trans hbel1)⟩
        case measure => simp [intOf]; omega
      · have hne : (b.toNat : Int) ≠ (c.toNat : Int) := fun e => hbc (UInt8.toNat_inj.1 (by omega))
        obtain ⟨vc, hvc⟩ : ∃ v, (c.toNat : Int) = v := ⟨_, rfl⟩
        rw [hvb, hvc] at hne
        rw [hvc]
        go_wp2_with ((with_reducible show wpList _ _ _ (Oper.mk _ (.index _ _ _) _ _ _ _ :: _) _ _); refine wp_ixS rfl _ _ rfl l k _ HBB.out rfl rfl ?_; rw [hvb])
        go_roundw
        case rel => exact ⟨k + 1, fr, P, by omega, by omega, rfl, rfl, HP, HS, Lib.hid (mem_step hfk HBB.out HM.out hbc), HO, HB⟩
        case measure => simp [intOf]; omega
    · obtain rfl : k = n := by omega
      have hlo : ¬ (k : Int) < (k : Int) := by omega
      have HP2 : Hid (P.length < 100000000) := Lib.hid (by have := HP.out; omega)
      have HK : Hid (fr ≤ l.length) := Lib.hid (by rw [HN.out]; omega)
      have HL : Hid (splF c l = P ++ [l.drop fr]) := Lib.hid (by
        have h1 : (l.drop fr).take (k - fr) = l.drop fr := List.take_of_length_le (by rw [List.length_drop, HN.out]; exact Nat.le_refl _)
        have h2 := HM.out
        rw [h1] at h2
        rw [HS.out, splF_plain h2])
      go_wp2_with (first
        | ((with_reducible show wpList _ _ _ (Oper.mk _ (.slice _ _ _ _ _) _ _ _ _ :: _) _ _); refine wp_slF rfl _ _ rfl l fr HK.out rfl rfl ?_)
        | (at_builtin; refine app_str wr rfl _ _ rfl w.heap.size HO.out rfl rfl HP2.out HB.out.size ?_; intro v1 w1 hown1 hbel1))
      rw [← HL.out] at hown1
      obtain ⟨A, cc, rfl, h1, h2⟩ := hown1.form
      go_ret
      exact ⟨A, cc, rfl, h1, h2, HB.out.trans hbel1⟩
end Go.Proofs.YtpdpcgeeneajjaaDoor
end
section
namespace Go.Proofs.YtpdpcgeeneajjaaDoor
open Go.RowKit
theorem dec_bad : ∀ (l : List UInt8) (acc : Nat), (∃ b ∈ l, Lib.digitVal b = none) → Lib.decFrom acc l = none
  | [], acc, h => by obtain ⟨b, hb, _⟩ := h; simp at hb
  | a :: l, acc, h => by
    unfold Lib.decFrom
    cases ha : Lib.digitVal a with
    | none => rfl
    | some d =>
      obtain ⟨b, hb, h0⟩ := h
      rcases List.mem_cons.1 hb with rfl | hb
      · rw [ha] at h0; cases h0
      · exact dec_bad l _ ⟨b, hb, h0⟩
theorem dig_none {b : UInt8} (h : (b.toNat : Int) < 48 ∨ 57 < (b.toNat : Int)) : Lib.digitVal b = none := by
  unfold Lib.digitVal; rw [if_neg (by omega)]
theorem dig_some {b : UInt8} (h0 : 48 ≤ (b.toNat : Int)) (h1 : (b.toNat : Int) ≤ 57) : Lib.digitVal b = some (b.toNat - 48) := by
  unfold Lib.digitVal; rw [if_pos (by omega)]
def numE (r : Option Int) : Ending := .returned (.tuple #[.int .i64 (r.getD 0), .bool r.isSome])
def numT (neg : Bool) (t : List UInt8) : Option Int := if t.length < 1 ∨ 8 < t.length then none else (Lib.decFrom 0 t).map fun (m : Nat) => if neg then -(m : Int) else m
theorem pow_lt8 {k v : Nat} (hk : k ≤ 8) (h : v + 1 ≤ 10 ^ k) : v < 100000000 := by
  have : 10 ^ k ≤ 10 ^ 8 := Nat.pow_le_pow_right (by omega) hk
  omega
theorem dec_step {l : List UInt8} {k x : Nat} {b : UInt8} (hb : l[k]? = some b) (hd : Lib.decFrom 0 (l.take k) = some x) (h0 : 48 ≤ (b.toNat : Int)) (h1 : (b.toNat : Int) ≤ 57) : Lib.decFrom 0 (l.take (k + 1)) = some (x * 10 + (b.toNat - 48)) := by
  rw [List.take_add_one, hb]
  exact decFrom_snoc _ 0 x _ b hd (dig_some h0 h1)
theorem run_ixS {l : List UInt8} {n : Nat} {b : UInt8} (hb : l[n]? = some b) (w : World) : (Instr.index 9 (.string (str l)) (.int .i64 (n : Int))).run Tryd.prog w = .ok (.int .u8 (b.toNat : Int)) w := by
  have hlt : n < l.length := (List.getElem?_eq_some_iff.1 hb).1
  rw [run_index_string w 9 (str l) .i64 n Tryd.underlying9, dif_pos ⟨by omega, by rw [str_size]; omega⟩]
  have e : ∀ h : ((n : Int)).toNat < (str l).size, (str l)[((n : Int)).toNat]'h = b := fun h => by
    have h2 : l[n]'hlt = b := by rw [List.getElem?_eq_getElem hlt] at hb; injection hb
    exact h2
  rw [e]
theorem run_slF {l : List UInt8} {i : Nat} (hi : i ≤ l.length) (w : World) : (Instr.slice 9 (.string (str l)) (some (.int .i64 (i : Int))) none none).run Tryd.prog w = .ok (.string (str (l.drop i))) w := by
  rw [run_slice_string_from_if w 9 (str l) .i64 i Tryd.underlying9, if_pos ⟨by omega, by rw [str_size]; omega⟩]
  simp only [Int.toNat_natCast]
  rw [str_cut, str_size, List.take_of_length_le (by rw [List.length_drop]; omega)]
set_option maxRecDepth 100000 in
set_option maxHeartbeats 4000000 in
theorem r38_number (s : List UInt8) (w : World) (hs : s.length ≤ 1000000) : Calls Tryd.prog 51 #[.string (str s)] w fun e w' => e = numE (numF s) ∧ w = w' := by
  obtain ⟨n, hn⟩ : ∃ n, s.length = n := ⟨_, rfl⟩
  rw [hn] at hs
  have hz : (str s).size = n := (str_size s).trans hn
  by_cases h1 : 1 < n
  · obtain ⟨b, hb⟩ : ∃ b, s[0]? = some b := ⟨_, List.getElem?_eq_getElem (by omega)⟩
    have q1 : (1 : Int) < (n : Int) := by omega
    by_cases h45 : b = 45
    · subst h45
      have hnum : numF s = numT true s.tail := by
        cases s with
        | nil => simp at hb
        | cons a t =>
          simp only [List.getElem?_cons_zero, Option.some.injEq] at hb
          subst hb
          unfold numF numT
          have h0 : 0 < t.length := by simp at hn; omega
          simp [h0]
      rw [hnum]
      obtain ⟨R, hR⟩ : ∃ R, numT true s.tail = R := ⟨_, rfl⟩
      rw [hR]
      have HRR := Lib.hid hR
      clear hR
      have HB := Lib.hid hb
      clear hb hnum
      go_enter Tryd.func51, Tryd.ntmps51
      have ix0 : (Instr.index 9 (.string (str s)) (.int .i64 0)).run Tryd.prog w = .ok (.int .u8 45) w := run_ixS HB.out w
      go_upto_region 2 with fail
      have hn1 : 1 ≤ s.length := by omega
      obtain ⟨m, hm⟩ : ∃ m, s.tail.length = m := ⟨_, rfl⟩
      have hms : m ≤ 1000000 := by rw [List.length_tail] at hm; omega
      have hzt : (str s.tail).size = m := (str_size _).trans hm
      have HM := Lib.hid hm
      clear hm
      have sl0 : (Instr.slice 9 (.string (str s)) (some (.int .i64 1)) none none).run Tryd.prog w = .ok (.string (str s.tail)) w := (run_slF hn1 w).trans (by rw [List.drop_one])
      go_upto_region 4 with fail
      generalize s.tail = t at HM hzt HRR ⊢
      by_cases hm : m < 1 ∨ 8 < m
      · have hres : R = none := by rw [← HRR.out]; unfold numT; rw [HM.out, if_pos hm]
        subst hres
        rcases hm with hm | hm
        · have hm0 : m = 0 := by omega
          subst hm0
          go_wp2_with fail
          go_ret2
          exact ⟨rfl, rfl⟩
        · have m1 : ¬ (m : Int) < 1 := by omega
          have m8 : (8 : Int) < (m : Int) := by omega
          go_wp2_with fail
          go_ret2
          exact ⟨rfl, rfl⟩
      have hm1 : ¬ (m : Int) < 1 := by omega
      have hm8 : ¬ (8 : Int) < (m : Int) := by omega
      have hm8' : m ≤ 8 := by omega
      have HR : Hid (numT true t = (Lib.decFrom 0 t).map fun (x : Nat) => if true then -(x : Int) else x) := Lib.hid (by unfold numT; rw [HM.out, if_neg hm])
      clear hm
      go_wp2_with fail
      go_loopw [5, 6] (fun v i wr => ∃ k x : Nat, k ≤ m ∧ v = .int .i64 x ∧ i = .int .i64 k ∧ Hid (x + 1 ≤ 10 ^ k) ∧ Hid (Lib.decFrom 0 (t.take k) = some x) ∧ w = wr) (fun v i _ => m - (intOf i).toNat)
      case atStart => exact ⟨0, 0, Nat.zero_le _, rfl, rfl, Lib.hid (by simp), Lib.hid rfl, rfl⟩
      case round =>
        obtain ⟨k, x, hk, rfl, rfl, HX, HD, rfl⟩ := hrel
        by_cases hlt : k < m
        · obtain ⟨b, hb⟩ : ∃ b, t[k]? = some b := ⟨_, List.getElem?_eq_getElem (by rw [HM.out]; exact hlt)⟩
          have HB := Lib.hid hb
          clear hb
          have q1 : (k : Int) < (m : Int) := by omega
          have wk : IntKind.i64.wrap ((k : Int) + 1) = ((k + 1 : Nat) : Int) := (IntWalk.i64_in _ (by omega)).trans (by omega)
          have hx8 := pow_lt8 (by omega) HX.out
          by_cases hlo : (b.toNat : Int) < 48
          · have hn : R = none := by rw [← HRR.out, HR.out, dec_bad _ _ ⟨b, List.mem_of_getElem? HB.out, dig_none (.inl hlo)⟩]; rfl
            subst hn
            obtain ⟨vb, hvb⟩ : ∃ v, (b.toNat : Int) = v := ⟨_, rfl⟩
            rw [hvb] at hlo
            have ix := run_ixS HB.out w
            rw [hvb] at ix
            go_wp2_with fail
            go_ret2
            exact ⟨rfl, rfl⟩
          · by_cases hhi : 57 < (b.toNat : Int)
            · have hn : R = none := by rw [← HRR.out, HR.out, dec_bad _ _ ⟨b, List.mem_of_getElem? HB.out, dig_none (.inr hhi)⟩]; rfl
              subst hn
              obtain ⟨vb, hvb⟩ : ∃ v, (b.toNat : Int) = v := ⟨_, rfl⟩
              rw [hvb] at hlo hhi
              have ix := run_ixS HB.out w
              rw [hvb] at ix
              go_wp2_with fail
              go_ret2
              exact ⟨rfl, rfl⟩
            · have hd := dec_step HB.out HD.out (by omega) (by omega)
              obtain ⟨d, hdd⟩ : ∃ d, b.toNat - 48 = d := ⟨_, rfl⟩
              have hd9 : d ≤ 9 := by omega
              rw [hdd] at hd
              have HDD := Lib.hid hd
              have HX1 : Hid (x * 10 + d + 1 ≤ 10 ^ (k + 1)) := Lib.hid (by have := HX.out; rw [Nat.pow_succ]; omega)
              obtain ⟨vb, hvb⟩ : ∃ v, (b.toNat : Int) = v := ⟨_, rfl⟩
              have hvd : vb = 48 + (d : Int) := by omega
              subst hvd
              rw [hvb] at hlo hhi
              have w1 : IntKind.u8.wrap (48 + (d : Int) - 48) = (d : Int) := (IntWalk.u8_in _ (by omega)).trans (by omega)
              have w2 : IntKind.i64.wrap (10 * (x : Int)) = ((x * 10 : Nat) : Int) := (IntWalk.i64_in _ (by omega)).trans (by omega)
              have w3 : IntKind.i64.wrap ((x * 10 : Nat) + (d : Int)) = ((x * 10 + d : Nat) : Int) := (IntWalk.i64_in _ (by omega)).trans (by omega)
              clear hd hdd
              have ix := run_ixS HB.out w
              rw [hvb] at ix
              go_wp2_with fail
              go_roundw
              case rel => exact ⟨k + 1, x * 10 + d, by omega, by simp <;> omega, rfl, HX1, HDD, by trivial⟩
              case measure => simp [intOf]; omega
        · obtain rfl : k = m := by omega
          have hlo : ¬ (k : Int) < (k : Int) := by omega
          have hx8 := pow_lt8 hm8' HX.out
          have hn : R = some (if true then -(x : Int) else x) := by
            have h1 := HD.out
            rw [List.take_of_length_le (by rw [HM.out]; exact Nat.le_refl _)] at h1
            rw [← HRR.out, HR.out, h1]; rfl
          subst hn
          have w1 : IntKind.i64.wrap (-(x : Int)) = -(x : Int) := IntWalk.i64_in _ (by omega)
          go_wp2_with fail
          go_ret2
          exact ⟨rfl, rfl⟩
    · have hnum : numF s = numT false s := by
        cases s with
        | nil => simp at hb
        | cons a t =>
          simp only [List.getElem?_cons_zero, Option.some.injEq] at hb
          subst hb
          unfold numF numT
          simp [h45]
      rw [hnum]
      obtain ⟨R, hR⟩ : ∃ R, numT false s = R := ⟨_, rfl⟩
      rw [hR]
      have HRR := Lib.hid hR
      clear hR
      have HM : Hid (s.length = n) := Lib.hid hn
      have hne : (b.toNat : Int) ≠ 45 := fun e => h45 (UInt8.toNat_inj.1 (by show b.toNat = 45; omega))
      have ix0 : (Instr.index 9 (.string (str s)) (.int .i64 0)).run Tryd.prog w = .ok (.int .u8 (b.toNat : Int)) w := run_ixS hb w
      obtain ⟨vb, hvb⟩ : ∃ v, (b.toNat : Int) = v := ⟨_, rfl⟩
      rw [hvb] at ix0 hne
      clear hb hnum hn hvb h45
      go_enter Tryd.func51, Tryd.ntmps51
      go_upto_region 4 with fail
      clear ix0
      generalize s = t at HM hz HRR ⊢
      generalize n = m at *
      by_cases hm : m < 1 ∨ 8 < m
      · have hres : R = none := by rw [← HRR.out]; unfold numT; rw [HM.out, if_pos hm]
        subst hres
        rcases hm with hm | hm
        · have hm0 : m = 0 := by omega
          subst hm0
          go_wp2_with fail
          go_ret2
          exact ⟨rfl, rfl⟩
        · have m1 : ¬ (m : Int) < 1 := by omega
          have m8 : (8 : Int) < (m : Int) := by omega
          go_wp2_with fail
          go_ret2
          exact ⟨rfl, rfl⟩
      have hm1 : ¬ (m : Int) < 1 := by omega
      have hm8 : ¬ (8 : Int) < (m : Int) := by omega
      have hm8' : m ≤ 8 := by omega
      have HR : Hid (numT false t = (Lib.decFrom 0 t).map fun (x : Nat) => if false then -(x : Int) else x) := Lib.hid (by unfold numT; rw [HM.out, if_neg hm])
      clear hm
      go_wp2_with fail
      go_loopw [5, 6] (fun v i wr => ∃ k x : Nat, k ≤ m ∧ v = .int .i64 x ∧ i = .int .i64 k ∧ Hid (x + 1 ≤ 10 ^ k) ∧ Hid (Lib.decFrom 0 (t.take k) = some x) ∧ w = wr) (fun v i _ => m - (intOf i).toNat)
      case atStart => exact ⟨0, 0, Nat.zero_le _, rfl, rfl, Lib.hid (by simp), Lib.hid rfl, rfl⟩
      case round =>
        obtain ⟨k, x, hk, rfl, rfl, HX, HD, rfl⟩ := hrel
        by_cases hlt : k < m
        · obtain ⟨b, hb⟩ : ∃ b, t[k]? = some b := ⟨_, List.getElem?_eq_getElem (by rw [HM.out]; exact hlt)⟩
          have HB := Lib.hid hb
          clear hb
          have q1 : (k : Int) < (m : Int) := by omega
          have wk : IntKind.i64.wrap ((k : Int) + 1) = ((k + 1 : Nat) : Int) := (IntWalk.i64_in _ (by omega)).trans (by omega)
          have hx8 := pow_lt8 (by omega) HX.out
          by_cases hlo : (b.toNat : Int) < 48
          · have hn : R = none := by rw [← HRR.out, HR.out, dec_bad _ _ ⟨b, List.mem_of_getElem? HB.out, dig_none (.inl hlo)⟩]; rfl
            subst hn
            obtain ⟨vb, hvb⟩ : ∃ v, (b.toNat : Int) = v := ⟨_, rfl⟩
            rw [hvb] at hlo
            have ix := run_ixS HB.out w
            rw [hvb] at ix
            go_wp2_with fail
            go_ret2
            exact ⟨rfl, rfl⟩
          · by_cases hhi : 57 < (b.toNat : Int)
            · have hn : R = none := by rw [← HRR.out, HR.out, dec_bad _ _ ⟨b, List.mem_of_getElem? HB.out, dig_none (.inr hhi)⟩]; rfl
              subst hn
              obtain ⟨vb, hvb⟩ : ∃ v, (b.toNat : Int) = v := ⟨_, rfl⟩
              rw [hvb] at hlo hhi
              have ix := run_ixS HB.out w
              rw [hvb] at ix
              go_wp2_with fail
              go_ret2
              exact ⟨rfl, rfl⟩
            · have hd := dec_step HB.out HD.out (by omega) (by omega)
              obtain ⟨d, hdd⟩ : ∃ d, b.toNat - 48 = d := ⟨_, rfl⟩
              have hd9 : d ≤ 9 := by omega
              rw [hdd] at hd
              have HDD := Lib.hid hd
              have HX1 : Hid (x * 10 + d + 1 ≤ 10 ^ (k + 1)) := Lib.hid (by have := HX.out; rw [Nat.pow_succ]; omega)
              obtain ⟨vb, hvb⟩ : ∃ v, (b.toNat : Int) = v := ⟨_, rfl⟩
              have hvd : vb = 48 + (d : Int) := by omega
              subst hvd
              rw [hvb] at hlo hhi
              have w1 : IntKind.u8.wrap (48 + (d : Int) - 48) = (d : Int) := (IntWalk.u8_in _ (by omega)).trans (by omega)
              have w2 : IntKind.i64.wrap (10 * (x : Int)) = ((x * 10 : Nat) : Int) := (IntWalk.i64_in _ (by omega)).trans (by omega)
              have w3 : IntKind.i64.wrap ((x * 10 : Nat) + (d : Int)) = ((x * 10 + d : Nat) : Int) := (IntWalk.i64_in _ (by omega)).trans (by omega)
              clear hd hdd
              have ix := run_ixS HB.out w
              rw [hvb] at ix
              go_wp2_with fail
              go_roundw
              case rel => exact ⟨k + 1, x * 10 + d, by omega, by simp <;> omega, rfl, HX1, HDD, by trivial⟩
              case measure => simp [intOf]; omega
        · obtain rfl : k = m := by omega
          have hlo : ¬ (k : Int) < (k : Int) := by omega
          have hx8 := pow_lt8 hm8' HX.out
          have hn : R = some (if false then -(x : Int) else x) := by
            have h1 := HD.out
            rw [List.take_of_length_le (by rw [HM.out]; exact Nat.le_refl _)] at h1
            rw [← HRR.out, HR.out, h1]; rfl
          subst hn
          have w1 : IntKind.i64.wrap (-(x : Int)) = -(x : Int) := IntWalk.i64_in _ (by omega)
          go_wp2_with fail
          go_ret2
          exact ⟨rfl, rfl⟩
  · have hnum : numF s = numT false s := by
      unfold numF numT
      have : decide (1 < s.length) = false := by rw [hn]; exact decide_eq_false h1
      rw [this]; rfl
    rw [hnum]
    obtain ⟨R, hR⟩ : ∃ R, numT false s = R := ⟨_, rfl⟩
    rw [hR]
    have HRR := Lib.hid hR
    clear hR
    have HM : Hid (s.length = n) := Lib.hid hn
    have q1 : ¬ (1 : Int) < (n : Int) := by omega
    clear hnum hn
    go_enter Tryd.func51, Tryd.ntmps51
    go_upto_region 4 with fail
    generalize s = t at HM hz HRR ⊢
    generalize n = m at *
    by_cases hm : m < 1 ∨ 8 < m
    · have hres : R = none := by rw [← HRR.out]; unfold numT; rw [HM.out, if_pos hm]
      subst hres
      rcases hm with hm | hm
      · have hm0 : m = 0 := by omega
        subst hm0
        go_wp2_with fail
        go_ret2
        exact ⟨rfl, rfl⟩
      · have m1 : ¬ (m : Int) < 1 := by omega
        have m8 : (8 : Int) < (m : Int) := by omega
        go_wp2_with fail
        go_ret2
        exact ⟨rfl, rfl⟩
    have hm1 : ¬ (m : Int) < 1 := by omega
    have hm8 : ¬ (8 : Int) < (m : Int) := by omega
    have hm8' : m ≤ 8 := by omega
    have HR : Hid (numT false t = (Lib.decFrom 0 t).map fun (x : Nat) => if false then -(x : Int) else x) := Lib.hid (by unfold numT; rw [HM.out, if_neg hm])
    clear hm
    go_wp2_with fail
    go_loopw [5, 6] (fun v i wr => ∃ k x : Nat, k ≤ m ∧ v = .int .i64 x ∧ i = .int .i64 k ∧ Hid (x + 1 ≤ 10 ^ k) ∧ Hid (Lib.decFrom 0 (t.take k) = some x) ∧ w = wr) (fun v i _ => m - (intOf i).toNat)
    case atStart => exact ⟨0, 0, Nat.zero_le _, rfl, rfl, Lib.hid (by simp), Lib.hid rfl, rfl⟩
    case round =>
      obtain ⟨k, x, hk, rfl, rfl, HX, HD, rfl⟩ := hrel
      by_cases hlt : k < m
      · obtain ⟨b, hb⟩ : ∃ b, t[k]? = some b := ⟨_, List.getElem?_eq_getElem (by rw [HM.out]; exact hlt)⟩
        have HB := Lib.hid hb
        clear hb
        have q1 : (k : Int) < (m : Int) := by omega
        have wk : IntKind.i64.wrap ((k : Int) + 1) = ((k + 1 : Nat) : Int) := (IntWalk.i64_in _ (by omega)).trans (by omega)
        have hx8 := pow_lt8 (by omega) HX.out
        by_cases hlo : (b.toNat : Int) < 48
        · have hn : R = none := by rw [← HRR.out, HR.out, dec_bad _ _ ⟨b, List.mem_of_getElem? HB.out, dig_none (.inl hlo)⟩]; rfl
          subst hn
          obtain ⟨vb, hvb⟩ : ∃ v, (b.toNat : Int) = v := ⟨_, rfl⟩
          rw [hvb] at hlo
          have ix := run_ixS HB.out w
          rw [hvb] at ix
          go_wp2_with fail
          go_ret2
          exact ⟨rfl, rfl⟩
        · by_cases hhi : 57 < (b.toNat : Int)
          · have hn : R = none := by rw [← HRR.out, HR.out, dec_bad _ _ ⟨b, List.mem_of_getElem? HB.out, dig_none (.inr hhi)⟩]; rfl
            subst hn
            obtain ⟨vb, hvb⟩ : ∃ v, (b.toNat : Int) = v := ⟨_, rfl⟩
            rw [hvb] at hlo hhi
            have ix := run_ixS HB.out w
            rw [hvb] at ix
            go_wp2_with fail
            go_ret2
            exact ⟨rfl, rfl⟩
          · have hd := dec_step HB.out HD.out (by omega) (by omega)
            obtain ⟨d, hdd⟩ : ∃ d, b.toNat - 48 = d := ⟨_, rfl⟩
            have hd9 : d ≤ 9 := by omega
            rw [hdd] at hd
            have HDD := Lib.hid hd
            have HX1 : Hid (x * 10 + d + 1 ≤ 10 ^ (k + 1)) := Lib.hid (by have := HX.out; rw [Nat.pow_succ]; omega)
            obtain ⟨vb, hvb⟩ : ∃ v, (b.toNat : Int) = v := ⟨_, rfl⟩
            have hvd : vb = 48 + (d : Int) := by omega
            subst hvd
            rw [hvb] at hlo hhi
            have w1 : IntKind.u8.wrap (48 + (d : Int) - 48) = (d : Int) := (IntWalk.u8_in _ (by omega)).trans (by omega)
            have w2 : IntKind.i64.wrap (10 * (x : Int)) = ((x * 10 : Nat) : Int) := (IntWalk.i64_in _ (by omega)).trans (by omega)
            have w3 : IntKind.i64.wrap ((x * 10 : Nat) + (d : Int)) = ((x * 10 + d : Nat) : Int) := (IntWalk.i64_in _ (by omega)).trans (by omega)
            clear hd hdd
            have ix := run_ixS HB.out w
            rw [hvb] at ix
            go_wp2_with fail
            go_roundw
            case rel => exact ⟨k + 1, x * 10 + d, by omega, by simp <;> omega, rfl, HX1, HDD, by trivial⟩
            case measure => simp [intOf]; omega
      · obtain rfl : k = m := by omega
        have hlo : ¬ (k : Int) < (k : Int) := by omega
        have hx8 := pow_lt8 hm8' HX.out
        have hn : R = some (if false then -(x : Int) else x) := by
          have h1 := HD.out
          rw [List.take_of_length_le (by rw [HM.out]; exact Nat.le_refl _)] at h1
          rw [← HRR.out, HR.out, h1]; rfl
        subst hn
        have w1 : IntKind.i64.wrap (-(x : Int)) = -(x : Int) := IntWalk.i64_in _ (by omega)
        go_wp2_with fail
        go_ret2
        exact ⟨rfl, rfl⟩
end Go.Proofs.YtpdpcgeeneajjaaDoor
end
section
namespace Go.Proofs.YtpdpcgeeneajjaaDoor
open Go.RowKit
def fmtL (l : List Ins) : List UInt8 := l.flatMap fun i => lineB i ++ [10]
def fmtB (l : List Ins) : List UInt8 := if encE l = 0 then fmtL l else []
theorem fmtL_len : ∀ {l : List Ins}, (∀ i ∈ l, i.ok) → (fmtL l).length ≤ 81 * l.length
  | [], _ => by simp [fmtL]
  | i :: l, h => by
    have h1 := fmtL_len fun j hj => h j (List.mem_cons_of_mem _ hj)
    have h2 := lineB_len (h i (List.mem_cons_self ..))
    unfold fmtL at h1 ⊢
    rw [List.flatMap_cons, List.length_append, List.length_append, List.length_cons, List.length_cons, List.length_nil]
    omega
theorem fmtL_succ {l : List Ins} {k : Nat} {i : Ins} (h : l[k]? = some i) : fmtL (l.take (k + 1)) = fmtL (l.take k) ++ lineB i ++ [10] := by
  unfold fmtL
  rw [List.take_add_one, h]
  simp
theorem take_ok {l : List Ins} (h : ∀ i ∈ l, i.ok) (k : Nat) : ∀ i ∈ l.take k, i.ok := fun i hi => h i (List.mem_of_mem_take hi)
theorem IsBu.keep {B b : Nat} {bs : List Value} {w w' : World} (h : IsBu B b bs w) (hb : Below w.heap.size w w') : IsBu B b bs w' := by
  rcases h with h | h
  · have hlt := h.lt
    obtain ⟨h1, v, h2, h3, h4⟩ := h
    exact .inl ⟨h1, v, (hb.block b hlt).trans h2, own_grow h3 hb, h4⟩
  · have hlt := h.lt
    obtain ⟨h1, v, h2, h3, h4⟩ := h
    exact .inr ⟨h1, v, (hb.block b hlt).trans h2, own_grow h3 hb, h4⟩
set_option maxRecDepth 100000 in
set_option maxHeartbeats 4000000 in
theorem pr_Format (A : Option Addr) (n c : Nat) (l : List Ins) (w : World) (hf : PrAt w) (h : InsAt w A l) (hn : l.length = n) (h9 : n ≤ 9223372036854775807) : Calls Tryd.prog 14 #[.slice A n c] w fun e w' => e = .returned (.tuple #[.string (str (fmtB l)), .int .i64 (encE l)]) ∧ Below w.heap.size w w' := by
  have hallok := h.ok
  have HI := Lib.hid h
  have HN := Lib.hid hn
  have HF := Lib.hid hf
  have HOK := Lib.hid hallok
  clear h hn hf hallok
  by_cases h0 : (512 : Int) < (n : Int)
  · have e1 : encE l = 5 := by unfold encE; rw [if_pos (by rw [HN.out]; omega)]
    have e2 : fmtB l = [] := by unfold fmtB; rw [e1]; rfl
    rw [e1, e2]
    clear e1 e2
    go_enter Tryd.func14, Tryd.ntmps14
    go_wp2_with fail
    go_ret2
    exact ⟨rfl, Below.refl _ _⟩
  · have e1 : encE l = if l.all Ins.formed then 0 else 21 := by unfold encE; rw [if_neg (by rw [HN.out]; omega)]
    have HE := Lib.hid e1
    clear e1
    have hn512 : (n : Int) ≤ 512 := by omega
    obtain ⟨sf, hsf⟩ : ∃ s, str (fmtB l) = s := ⟨_, rfl⟩
    obtain ⟨E, hE⟩ : ∃ E, encE l = E := ⟨_, rfl⟩
    rw [hsf, hE]
    have HSF := Lib.hid hsf
    have HEE := Lib.hid hE
    clear hsf hE
    go_enter Tryd.func14, Tryd.ntmps14
    go_upto_region 4 with fail
    have HB1 : Hid (Below w.heap.size w (w.alloc (.cells #[.pointer none, .slice none 0 0] 74))) := Lib.hid ((Below.refl _ _).alloc (Nat.le_refl _) _)
    have HU1 : Hid (IsBu w.heap.size w.heap.size [] (w.alloc (.cells #[.pointer none, .slice none 0 0] 74))) := Lib.hid (Lib.fresh_isBuilder _ _ w)
    generalize w.alloc (.cells #[.pointer none, .slice none 0 0] 74) = w1 at HB1 HU1 ⊢
    go_wp2_with fail
    go_loopw [12] (fun i wr => ∃ (k : Nat), k ≤ n ∧ i = .int .i64 k ∧ Hid ((l.take k).all Ins.formed = true) ∧ Hid (IsBu w.heap.size w.heap.size (Lib.byteCells (fmtL (l.take k))) wr) ∧ Hid (Below w.heap.size w wr)) (fun i _ => n - (intOf i).toNat)
    case atStart => exact ⟨0, Nat.zero_le _, rfl, Lib.hid rfl, HU1, HB1⟩
    case round =>
      obtain ⟨k, hk, rfl, HT, HU, HB⟩ := hrel
      by_cases hlt : k < n
      · obtain ⟨i, hi⟩ : ∃ i, l[k]? = some i := ⟨_, List.getElem?_eq_getElem (by rw [HN.out]; exact hlt)⟩
        obtain ⟨ad, rfl, hs, hb, hr, hok⟩ := (HI.out.grow HB.out) k i hi
        have HS := Lib.hid hs
        have HR := Lib.hid hr
        have q1 : (0 : Int) ≤ (k : Int) := by omega
        have q2 : (k : Int) < (n : Int) := by omega
        have wk : IntKind.i64.wrap ((k : Int) + 1) = ((k + 1 : Nat) : Int) := (IntWalk.i64_in _ (by omega)).trans (by omega)
        have HK := Lib.hid hi
        obtain ⟨x, hx⟩ : ∃ x, i.formed = x := ⟨_, rfl⟩
        have CF : Hid (∀ w1, Below wr.heap.size wr w1 → Calls Tryd.prog 21 #[i.v] w1 fun e w' => e = .returned (.bool x) ∧ Below w1.heap.size w1 w') := Lib.hid fun w1 hb => by
          have := pr_formed i w1 ((HF.out.forms.grow HB.out).grow hb)
          rw [hx] at this; exact this
        have CL : Hid (x = true → ∀ w1, Below wr.heap.size wr w1 → Calls Tryd.prog 33 #[i.v] w1 fun e w' => e = .returned (.string (str (lineB i))) ∧ Below w1.heap.size w1 w') := Lib.hid fun hxt w1 hb => pr_line i w1 ((HF.out.grow HB.out).grow hb) hok (hx.trans hxt)
        have hll : (fmtL (l.take k)).length ≤ 41472 := by
          have h1 := fmtL_len (take_ok HOK.out k)
          rw [List.length_take, HN.out] at h1
          have h2 : min k n ≤ 512 := by omega
          omega
        have hli := lineB_len hok
        have HLL : Hid ((Lib.byteCells (fmtL (l.take k))).length + (str (lineB i)).size ≤ 140737488355328 ∧ (Lib.byteCells (fmtL (l.take k)) ++ Lib.strCells (str (lineB i))).length + 1 ≤ 140737488355328) := Lib.hid (by
          rw [List.length_append, Lib.byteCells_length, Lib.strCells_length, str_size]; omega)
        have HCC : Hid (Lib.byteCells (fmtL (l.take k)) ++ Lib.strCells (str (lineB i)) ++ [.int .u8 10] = Lib.byteCells (fmtL (l.take (k + 1)))) := Lib.hid (by
          rw [fmtL_succ hi, Lib.byteCells_append, Lib.byteCells_append]; rfl)
        have HX := Lib.hid hx
        clear hs hr hb hi hx hok hll hli
        go_upto_region 7 with (first
          | ((with_reducible show wpList _ _ _ (Oper.mk _ (.load _ _) _ _ _ _ :: _) _ _); refine ld_insA HS.out HR.out rfl _ rfl rfl ?_)
          | ((with_reducible show wpList _ _ _ (Oper.mk _ (.store _ _ _) _ _ _ _ :: _) _ _); refine st_ins (w := wr.alloc (.cells Ins.zero.cells.toArray 50)) (g := wr.heap.size) (i := Ins.zero) (j := i) (Box.new rfl) rfl _ _ rfl rfl rfl ?_; intro W2 b2 p2))
        have hb2 := put_facts ((Below.refl wr.heap.size wr).alloc (Nat.le_refl _) (.cells Ins.zero.cells.toArray 50)) (Nat.le_refl _) p2
        generalize wr.heap.size = g6 at b2 ⊢
        cases x with
        | false =>
          have hall : l.all Ins.formed = false := all_no HK.out HX.out
          go_wp2_with (first
            | ((with_reducible show wpList _ _ _ (Oper.mk _ (.load _ _) _ _ _ _ :: _) _ _); refine ld_ins b2 rfl _ rfl rfl ?_)
            | (go_at_call 21; (with_reducible refine (CF.out _ hb2).mono ?_); rintro e1 w3 ⟨rfl, hb3⟩))
          go_ret2
          have he : E = 21 := by rw [← HEE.out, HE.out, hall]; rfl
          have hf0 : fmtB l = [] := by unfold fmtB; rw [HE.out, hall]; rfl
          subst he
          refine ⟨?_, below_then HB.out (below_then hb2 hb3)⟩
          rw [← HSF.out, hf0]; rfl
        | true =>
          go_upto_region 9 with (first
            | ((with_reducible show wpList _ _ _ (Oper.mk _ (.load _ _) _ _ _ _ :: _) _ _); refine ld_ins b2 rfl _ rfl rfl ?_)
            | (go_at_call 21; (with_reducible refine (CF.out _ hb2).mono ?_); rintro e1 w3 ⟨rfl, hb3⟩))
          have b3 := b2.keep hb3
          have hb13 := below_then hb2 hb3
          have HU3 : Hid (IsBu w.heap.size w.heap.size (Lib.byteCells (fmtL (l.take k))) w3) := Lib.hid (HU.out.keep hb13)
          have HB3 : Hid (Below w.heap.size w w3) := Lib.hid (below_then HB.out hb13)
          go_upto_region 10 with (first
            | ((with_reducible show wpList _ _ _ (Oper.mk _ (.load _ _) _ _ _ _ :: _) _ _); refine ld_ins b3 rfl _ rfl rfl ?_)
            | (go_at_call 33; (with_reducible refine (CL.out (by trivial) _ hb13).mono ?_); rintro e2 w4 ⟨rfl, hb4⟩)
            | (go_at_call 32; (with_reducible refine (bu_str w.heap.size w.heap.size _ _ _ (HU3.out.keep hb4) HLL.out.1 (below_then HB3.out hb4).size).mono ?_); rintro e3 w5 ⟨rfl, hu5, hb5⟩))
          have HB5 : Hid (Below w.heap.size w w5) := Lib.hid ((below_then HB3.out hb4).trans hb5)
          have HU5 := Lib.hid hu5
          clear hb4 hb5 hu5 b2 b3 hb2 hb3 hb13 p2
          go_wp2_with (go_at_call 34; (with_reducible refine (bu_byte w.heap.size w.heap.size _ _ _ HU5.out HLL.out.2 HB5.out.size).mono ?_); rintro e4 w6 ⟨rfl, hu6, hb6⟩)
          go_roundw
          case rel => exact ⟨k + 1, by omega, rfl, Lib.hid (by show _ = _; rw [take_succ_all HK.out, HT.out, HX.out]; rfl), Lib.hid (HCC.out ▸ hu6), Lib.hid (HB5.out.trans hb6)⟩
          case measure => simp [intOf]; omega
      · obtain rfl : k = n := by omega
        have hlo : ¬ (k : Int) < (k : Int) := by omega
        have hall : l.all Ins.formed = true := by have := HT.out; rwa [← HN.out, List.take_length] at this
        have he : E = 0 := by rw [← HEE.out, HE.out, hall]; rfl
        have hu := HU.out
        rw [← HN.out, List.take_length] at hu
        have HUE := Lib.hid hu
        have HFE : Hid (str (fmtL l) = sf) := Lib.hid (by rw [← HSF.out]; unfold fmtB; rw [HEE.out, if_pos he])
        clear hu hall
        go_wp2_with (go_at_call 35; (with_reducible refine (Tryd.Builder_String_any w.heap.size w.heap.size (fmtL l) _ HUE.out HB.out.size).mono ?_); rintro e1 w2 ⟨rfl, hb2⟩)
        go_ret2
        subst he
        exact ⟨by rw [← HFE.out]; rfl, HB.out.trans hb2⟩
end Go.Proofs.YtpdpcgeeneajjaaDoor
end
section
namespace Go.Proofs.YtpdpcgeeneajjaaDoor
open Go.RowKit
def sumOp (op : Int) : Bool := op == 2 || (op == 3 || op == 4)
def touchF (s : Bool) (v : Int) (r w : List Int) : Bool := !(s && v == 8) && (r.contains v || w.contains v)
def depF (i j : Ins) : Bool := (i.op == 0 || j.op == 0) || (i.wt.any (fun v => touchF (sumOp i.op && sumOp j.op) v j.rd j.wt) || j.wt.any (fun v => touchF (sumOp i.op && sumOp j.op) v i.rd i.wt))
def delayF (op : Int) : Int := if op = 6 then 1 else if op = 5 then 2 else 0
end Go.Proofs.YtpdpcgeeneajjaaDoor
end
section
namespace Go.Proofs.YtpdpcgeeneajjaaDoor
theorem qld_mid {P : Program} {ops : Array Oper} {rest : List Oper} {o : Oper} {a : Act} {C : World → Prop} {Q : Act → Prop} (hw : Region.wanted o (yielded ops a.tmps) = true) (ty : TypeId) (x : Operand) (ho : o.op = .load ty x) (b k : Nat) (hx : a.eval x = .pointer (some ⟨b, k, none⟩)) (cs : List Value) (d : TypeDesc) (hc : ∀ w, C w → w.rangeAt b k cs)
    (hu : P.underlying ty = some d) (hd : d.isRow = true) (hi : (P.info? ty).map (·.size) = some cs.length) (h : wpQuiet P ops C Q rest (a.put o.dst (.agg cs.toArray))) : wpQuiet P ops C Q (o :: rest) a :=
  BigFrame.wpQuiet_want hw fun K hK => ⟨_, fun w hw' => by
    unfold Oper.quietAt execOp
    simp only [ho, hx, Instr.loadAt, Instr.sureAddr, Sem.run_bind, Sem.run_pure, Result.andThen_ok, run_loadVar_mid w b k ty cs d (hc w hw') hu hd hi]
    exact ⟨rfl, rfl⟩, hK _ h⟩
end Go.Proofs.YtpdpcgeeneajjaaDoor
end
section
namespace Go.Proofs.YtpdpcgeeneajjaaDoor
open Go.RowKit
def depRow (l : List Ins) (j m : Nat) : List Int := ((List.range m).filter fun i => depF (l.getD i Ins.zero) (l.getD j Ins.zero)).map fun i : Nat => (i : Int)
theorem qld_insA {ops : Array Oper} {rest : List Oper} {o : Oper} {a : Act} {Q : Act → Prop} {W : World} {i : Ins} {ad : Addr} {n : Nat} (hs : ad.spot = none) (hb : ad.block < W.heap.size) (hr : W.rangeAt ad.block (ad.off + n) i.cells) (hw : Region.wanted o (yielded ops a.tmps) = true) (x : Operand) (ho : o.op = .load 50 x) (hx : a.eval x = .pointer (some (ad.add n))) (h : wpQuiet Tryd.prog ops (fun w' => ∃ n : Ext W, w' = n.to) Q rest (a.put o.dst i.v)) : wpQuiet Tryd.prog ops (fun w' => ∃ n : Ext W, w' = n.to) Q (o :: rest) a := by
  obtain ⟨d, h1, h2⟩ := row_ins
  rw [add_noneI hs] at hx
  exact qld_mid hw _ x ho ad.block (ad.off + n) hx i.cells d (fun w hw' => by obtain ⟨n, rfl⟩ := hw'; exact range_keepI hr hb n.below) h1 h2 size_ins h
end Go.Proofs.YtpdpcgeeneajjaaDoor
end
section
namespace Go.Proofs.YtpdpcgeeneajjaaDoor
open Go.RowKit
def hitF (l : List Ins) (v : Int) (i k : Nat) : Bool := (List.range k).any fun m => decide (i < m) && (l.getD m Ins.zero).wt.contains v
def latX (l : List Ins) (x y : Ins) (i j : Nat) : Int := if delayF x.op = 0 ∨ y.rd.contains x.a = false then 1 else if hitF l x.a i j then 1 else 1 + delayF x.op
def latP (l : List Ins) (i j : Nat) : Int := latX l (l.getD i Ins.zero) (l.getD j Ins.zero) i j
end Go.Proofs.YtpdpcgeeneajjaaDoor
end
section
namespace Go.Proofs.YtpdpcgeeneajjaaDoor
open Go.RowKit
def htS (l : List Ins) (j : Nat) (h : List Int) (i : Int) : List Int := h.set i.toNat (max (h.getD i.toNat 0) (latP l i.toNat j + h.getD j 0))
def htI (l : List Ins) (j : Nat) (h : List Int) (is : List Int) : List Int := is.foldl (htS l j) h
def htJ (l : List Ins) (j : Nat) (h : List Int) : List Int := htI l j (h.set j (max (h.getD j 0) 1)) (depRow l j j)
def hts (l : List Ins) (n : Nat) : Nat → List Int
  | 0 => List.replicate n 0
  | k + 1 => htJ l (n - 1 - k) (hts l n k)
end Go.Proofs.YtpdpcgeeneajjaaDoor
end
