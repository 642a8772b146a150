/- Several texts in one: Zu Zv Zw Zx. -/
import Derived.Test.YtmdfgidejdiiiaadV7toZt
set_option linter.unusedVariables false
set_option linter.unusedSimpArgs false
section
namespace Go.Proofs.Ytmdfgidejdiiiaa
open Go.RowKit
theorem sgn_mul (a b : Bool) (x y : Int) : sgn (a != b) (x * y) = sgn a x * sgn b y := by
  cases a <;> cases b <;> simp [sgn, Int.neg_mul, Int.mul_neg]
set_option maxRecDepth 100000 in
set_option maxHeartbeats 4000000 in
theorem it_Mul (na nb : Bool) (A B : Option Addr) (n m c d : Nat) (a b : List Int) (w : World) (ha : DigA w A a) (hb : DigA w B b) (hn : a.length = n) (hm : b.length = m) (hc : n ≤ c) (hd : m ≤ d) (h9 : n ≤ 1000000) (h8 : m ≤ 1000000) :
    Calls Try.prog 87 #[.agg #[.bool na, .slice A n c], .agg #[.bool nb, .slice B m d]] w (RetI w (sgn na (nv a) * sgn nb (nv b)) (n + m)) := by
  have CM : Hid (∀ w1, Below w.heap.size w w1 → Calls Try.prog 89 #[.slice A n c, .slice B m d] w1 (RetN w1 (nv a * nv b) (n + m))) := Lib.hid fun w1 h => nt_Mul A B n m c d a b w1 (ha.grow h) (hb.grow h) hn hm hc hd (by omega) (by omega)
  obtain ⟨x, hx⟩ : ∃ x, nv a = x := ⟨_, rfl⟩
  obtain ⟨y, hy⟩ : ∃ x, nv b = x := ⟨_, rfl⟩
  rw [hx, hy] at CM ⊢
  rw [← sgn_mul]
  clear hx hy ha hb hn hm hc hd
  obtain ⟨K, hK⟩ : ∃ K, n + m = K := ⟨_, rfl⟩
  rw [hK] at CM ⊢
  clear hK
  obtain ⟨X, hX⟩ : ∃ X, x * y = X := ⟨_, rfl⟩
  rw [hX] at CM ⊢
  clear hX
  obtain ⟨ng, hng⟩ : ∃ t, (na != nb) = t := ⟨_, rfl⟩
  rw [hng]
  go_enter Try.func87, Try.ntmps87
  go_upto_region 1 with fail
  have hB : Below w.heap.size w (((w.alloc (.cells #[.bool na, .slice A n c] 26)).alloc (.cells #[.bool nb, .slice B m d] 26)).alloc (.cells #[.bool false, .slice none 0 0] 26)) := (((Below.refl _ _).alloc (Nat.le_refl _) _).alloc (by simp) _).alloc (by simp; omega) _
  have b1 : Box (((w.alloc (.cells #[.bool na, .slice A n c] 26)).alloc (.cells #[.bool nb, .slice B m d] 26)).alloc (.cells #[.bool false, .slice none 0 0] 26)) w.heap.size [.bool na, .slice A n c] := ((Box.new rfl).alloc _).alloc _
  have b2 : Box (((w.alloc (.cells #[.bool na, .slice A n c] 26)).alloc (.cells #[.bool nb, .slice B m d] 26)).alloc (.cells #[.bool false, .slice none 0 0] 26)) (w.heap.size + 1) [.bool nb, .slice B m d] := (Box.new (by simp)).alloc _
  have b3 : Box (((w.alloc (.cells #[.bool na, .slice A n c] 26)).alloc (.cells #[.bool nb, .slice B m d] 26)).alloc (.cells #[.bool false, .slice none 0 0] 26)) (w.heap.size + 1 + 1) [.bool false, .slice none 0 0] := Box.new (by simp)
  generalize ((w.alloc (.cells #[.bool na, .slice A n c] 26)).alloc (.cells #[.bool nb, .slice B m d] 26)).alloc (.cells #[.bool false, .slice none 0 0] 26) = wA at hB b1 b2 b3 ⊢
  have HA := Lib.hid (And.intro hB (And.intro b1 (And.intro b2 b3)))
  have HNG := Lib.hid hng
  clear hB b1 b2 b3 hng
  refine wp_region_grow2 (fun i => Nat.blt i 11) (fun _ => false) (fun w9 => Below wA.heap.size wA w9) (fun a b => Below a.heap.size a b) (dN wA.heap.size [.v (.pointer (some ⟨w.heap.size, 0, none⟩)), .v (.bool na), .v (.pointer (some ⟨w.heap.size + 1, 0, none⟩)), .v (.bool nb), .v (.bool ng), .v (.pointer (some ⟨w.heap.size, 1, none⟩)), .v (.slice A n c), .v (.pointer (some ⟨w.heap.size + 1, 1, none⟩)), .v (.slice B m d), .num X K, .int (sgn ng X) K]) (by kernel_rfl) (by kernel_rfl) (Below.refl _ _).drew (fun a b h1 h2 => ⟨below_then h1 h2, fun i _ v => dN_keep h2 i v⟩) (fun _ _ => Below.refl _ _) ?_ (fun _ _ _ _ h => by cases h) ?_
  · refine ⟨?_, ?_, ?_, ?_, ?_, ?_, ?_, ?_, ?_, ?_, ?_, trivial⟩
    all_goals
      intro vs w9 hp hF
      have HP := Lib.hid hp
      obtain ⟨z1, z2⟩ := (HA.out.2.1.keep hp).c2
      obtain ⟨z3, z4⟩ := (HA.out.2.2.1.keep hp).c2
      clear hp
      simp [depsB, Region.binds, dN] at hF
      simp [stL, depsB, Region.binds, Act.put, hF]
    · (go_wp2_with fail; exact ⟨rfl, Below.refl _ _⟩)
    · (go_wp2_with fail; exact ⟨rfl, Below.refl _ _⟩)
    · (go_wp2_with fail; exact ⟨rfl, Below.refl _ _⟩)
    · (go_wp2_with fail; exact ⟨rfl, Below.refl _ _⟩)
    · (go_wp2_with fail; exact ⟨by show Value.bool _ = Value.bool _; rw [← HNG.out]; try rfl, Below.refl _ _⟩)
    · (go_wp2_with fail; exact ⟨rfl, Below.refl _ _⟩)
    · (go_wp2_with fail; exact ⟨rfl, Below.refl _ _⟩)
    · (go_wp2_with fail; exact ⟨rfl, Below.refl _ _⟩)
    · (go_wp2_with fail; exact ⟨rfl, Below.refl _ _⟩)
    · go_wp2_with (go_at_call 89; (with_reducible refine (CM.out _ (below_then HA.out.1 HP.out)).mono ?_); intro e1 w1' h1; obtain ⟨v1, rfl, o1, hb1⟩ := h1.num (b := wA.heap.size) HP.out.size)
      exact o1
    · obtain ⟨h1, A', c', l', e4, o4, n4, m4, k4⟩ := hF
      simp only [e4]
      go_wp2_with (go_at_call 114; (with_reducible refine (it_signed _ _ _ _ _).mono ?_); rintro e1 w1' ⟨rfl, hb1⟩)
      exact ⟨_, A', c', l', rfl, o4.grow hb1, m4, k4, by rw [sgn_len m4 o4.dig, n4]⟩
  intro vs w9 hp hF
  obtain ⟨neg', A', c', l', e5, o5⟩ : IntO wA.heap.size w9 (vs 10) (sgn ng X) K := hF 10 (by decide) rfl
  have b9 := HA.out.2.2.2.keep hp
  have hb9 := below_then HA.out.1 hp
  clear hF
  show wpList Try.prog _ _ [_] _ _
  simp [stL, Act.put, e5]
  refine wp_st rfl 26 _ _ rfl (w.heap.size + 1 + 1) 0 [.bool neg', .slice A' l'.length c'] rfl rfl size_Int rfl b9 (Nat.le_refl _) rfl ?_
  intro W9 c9 g9
  have hW := put_facts (g := w.heap.size + 1 + 1) hb9 (by omega) g9
  have HO := Lib.hid ((o5.1.away g9 HA.out.2.2.2.1).base (base' := w.heap.size) HA.out.1.size)
  have HC := Lib.hid (And.intro c9 (And.intro hW o5.2))
  clear c9 g9 hW o5 e5 b9 hb9 hp
  go_wp2_with fail
  obtain ⟨dsc, hd1, hd2⟩ := row_Int
  refine bodyPost_ret (resC rfl _ _ W9 (g := w.heap.size + 1 + 1) rfl (res_box 26 HC.out.1 dsc hd1 hd2 size_Int)) rfl ?_
  exact ⟨_, rfl, ⟨neg', A', c', l', rfl, HO.out, HC.out.2.2⟩, HC.out.2.1⟩
end Go.Proofs.Ytmdfgidejdiiiaa
end
section
namespace Go.Proofs.Ytmdfgidejdiiiaa
open Go.RowKit
theorem cmp_facts3 (x y : Int) : (cmpI x y = -1 → x < y) ∧ (cmpI x y ≠ -1 → y ≤ x) := by
  unfold cmpI
  split
  · exact ⟨fun _ => by assumption, fun h => absurd rfl h⟩
  · refine ⟨fun h => ?_, fun _ => by omega⟩
    split at h <;> omega
set_option maxRecDepth 100000 in
set_option maxHeartbeats 4000000 in
theorem it_Add (na nb : Bool) (A B : Option Addr) (n m c d : Nat) (a b : List Int) (w : World) (ha : DigA w A a) (hb : DigA w B b) (hn : a.length = n) (hm : b.length = m) (hc : n ≤ c) (hd : m ≤ d) (h9 : n ≤ 1000000) (h8 : m ≤ 1000000) :
    Calls Try.prog 94 #[.agg #[.bool na, .slice A n c], .agg #[.bool nb, .slice B m d]] w (RetI w (sgn na (nv a) + sgn nb (nv b)) (max n m + 1)) := by
  obtain ⟨K, hK⟩ : ∃ K, max n m + 1 = K := ⟨_, rfl⟩
  have CM : Hid (∀ w1, Below w.heap.size w w1 → Calls Try.prog 121 #[.slice A n c, .slice B m d] w1 (RetN w1 (nv a + nv b) K)) := Lib.hid fun w1 h => hK ▸ nt_Add A B n m c d a b w1 (ha.grow h) (hb.grow h) hn hm hc hd (by omega) (by omega)
  have CQ : Hid (∀ w1, Below w.heap.size w w1 → Calls Try.prog 95 #[.slice A n c, .slice B m d] w1 fun e w' => e = .returned (.int .i64 (cmpI (nv a) (nv b))) ∧ Below w1.heap.size w1 w') := Lib.hid fun w1 h => nt_Compare A B n m c d a b w1 (ha.grow h) (hb.grow h) hn hm hc hd (by omega) (by omega)
  have CS : Hid (∀ w1, Below w.heap.size w w1 → Calls Try.prog 122 #[.slice A n c, .slice B m d] w1 (RetN w1 (if nv a ≤ nv b then 0 else nv a - nv b) K)) := Lib.hid fun w1 h => (nt_Sub A B n m c d a b w1 (ha.grow h) (hb.grow h) hn hm hc hd (by omega) (by omega)).mono fun _ _ h => h.le (by omega)
  have CT : Hid (∀ w1, Below w.heap.size w w1 → Calls Try.prog 122 #[.slice B m d, .slice A n c] w1 (RetN w1 (if nv b ≤ nv a then 0 else nv b - nv a) K)) := Lib.hid fun w1 h => (nt_Sub B A m n d c b a w1 (hb.grow h) (ha.grow h) hm hn hd hc (by omega) (by omega)).mono fun _ _ h => h.le (by omega)
  rw [hK]
  obtain ⟨x, hx⟩ : ∃ x, nv a = x := ⟨_, rfl⟩
  obtain ⟨y, hy⟩ : ∃ x, nv b = x := ⟨_, rfl⟩
  rw [hx, hy] at CM CQ CS ⊢
  rw [hx, hy] at CT
  clear hx hy ha hb hn hm hc hd hK
  obtain ⟨Z, hZ⟩ : ∃ Z, sgn na x + sgn nb y = Z := ⟨_, rfl⟩
  obtain ⟨X1, hX1⟩ : ∃ X, x + y = X := ⟨_, rfl⟩
  obtain ⟨X2, hX2⟩ : ∃ X, (if x ≤ y then 0 else x - y) = X := ⟨_, rfl⟩
  obtain ⟨X3, hX3⟩ : ∃ X, (if y ≤ x then 0 else y - x) = X := ⟨_, rfl⟩
  obtain ⟨R, hR⟩ : ∃ X, cmpI x y = X := ⟨_, rfl⟩
  rw [hX1] at CM
  rw [hX2] at CS
  rw [hX3] at CT
  rw [hR] at CQ
  rw [hZ]
  have HF := Lib.hid (And.intro hZ (And.intro hX1 (And.intro hX2 (And.intro hX3 hR))))
  clear hZ hX1 hX2 hX3 hR
  go_enter Try.func94, Try.ntmps94
  go_upto_region 1 with fail
  have hB : Below w.heap.size w (((w.alloc (.cells #[.bool na, .slice A n c] 26)).alloc (.cells #[.bool nb, .slice B m d] 26)).alloc (.cells #[.bool false, .slice none 0 0] 26)) := (((Below.refl _ _).alloc (Nat.le_refl _) _).alloc (by simp) _).alloc (by simp; omega) _
  have b1 : Box (((w.alloc (.cells #[.bool na, .slice A n c] 26)).alloc (.cells #[.bool nb, .slice B m d] 26)).alloc (.cells #[.bool false, .slice none 0 0] 26)) w.heap.size [.bool na, .slice A n c] := ((Box.new rfl).alloc _).alloc _
  have b2 : Box (((w.alloc (.cells #[.bool na, .slice A n c] 26)).alloc (.cells #[.bool nb, .slice B m d] 26)).alloc (.cells #[.bool false, .slice none 0 0] 26)) (w.heap.size + 1) [.bool nb, .slice B m d] := (Box.new (by simp)).alloc _
  have b3 : Box (((w.alloc (.cells #[.bool na, .slice A n c] 26)).alloc (.cells #[.bool nb, .slice B m d] 26)).alloc (.cells #[.bool false, .slice none 0 0] 26)) (w.heap.size + 1 + 1) [.bool false, .slice none 0 0] := Box.new (by simp)
  generalize ((w.alloc (.cells #[.bool na, .slice A n c] 26)).alloc (.cells #[.bool nb, .slice B m d] 26)).alloc (.cells #[.bool false, .slice none 0 0] 26) = wB at hB b1 b2 b3 ⊢
  obtain ⟨y1, y2⟩ := b1.c2
  obtain ⟨y3, y4⟩ := b2.c2
  have HB := Lib.hid (And.intro hB (And.intro b1 (And.intro b2 b3)))
  clear hB b1 b2 b3
  by_cases hs : na = nb
  · have HZ : Hid (sgn na X1 = Z) := Lib.hid (by have h := HF.out; rw [← h.1, ← h.2.1, ← hs]; cases na <;> simp [sgn] <;> omega)
    have hs' : (na == nb) = true := by simp [hs]
    clear hs
    go_upto_region 2 with fail
    have HA := HB
    generalize wB = wA at HA ⊢
    clear y1 y2 y3 y4 HB
    refine wp_region_grow2 (fun i => Nat.blt i 8) (fun _ => false) (fun w9 => Below wA.heap.size wA w9) (fun a b => Below a.heap.size a b) (dN wA.heap.size [.v (.pointer (some ⟨w.heap.size, 0, none⟩)), .v (.bool na), .v (.pointer (some ⟨w.heap.size, 1, none⟩)), .v (.slice A n c), .v (.pointer (some ⟨w.heap.size + 1, 1, none⟩)), .v (.slice B m d), .num X1 K, .int (sgn na X1) K]) (by kernel_rfl) (by kernel_rfl) (Below.refl _ _).drew (fun a b h1 h2 => ⟨below_then h1 h2, fun i _ v => dN_keep h2 i v⟩) (fun _ _ => Below.refl _ _) ?_ (fun _ _ _ _ h => by cases h) ?_
    · refine ⟨?_, ?_, ?_, ?_, ?_, ?_, ?_, ?_, trivial⟩
      all_goals
        intro vs w9 hp hF
        have HP := Lib.hid hp
        obtain ⟨z1, z2⟩ := (HA.out.2.1.keep hp).c2
        obtain ⟨z3, z4⟩ := (HA.out.2.2.1.keep hp).c2
        clear hp
        simp [depsB, Region.binds, dN] at hF
        simp [stL, depsB, Region.binds, Act.put, hF]
      · (go_wp2_with fail; exact ⟨rfl, Below.refl _ _⟩)
      · (go_wp2_with fail; exact ⟨rfl, Below.refl _ _⟩)
      · (go_wp2_with fail; exact ⟨rfl, Below.refl _ _⟩)
      · (go_wp2_with fail; exact ⟨rfl, Below.refl _ _⟩)
      · (go_wp2_with fail; exact ⟨rfl, Below.refl _ _⟩)
      · (go_wp2_with fail; exact ⟨rfl, Below.refl _ _⟩)
      · go_wp2_with (go_at_call 121; (with_reducible refine (CM.out _ (below_then HA.out.1 HP.out)).mono ?_); intro e1 w1' h1; obtain ⟨v1, rfl, o1, hb1⟩ := h1.num (b := wA.heap.size) HP.out.size)
        exact o1
      · obtain ⟨h1, A', c', l', e4, o4, n4, m4, k4⟩ := hF
        simp only [e4]
        go_wp2_with (go_at_call 114; (with_reducible refine (it_signed _ _ _ _ _).mono ?_); rintro e1 w1' ⟨rfl, hb1⟩)
        exact ⟨_, A', c', l', rfl, o4.grow hb1, m4, k4, by rw [sgn_len m4 o4.dig, n4]⟩
    intro vs w9 hp hF
    obtain ⟨neg', A', c', l', e5, o5⟩ : IntO wA.heap.size w9 (vs 7) (sgn na X1) K := hF 7 (by decide) rfl
    have b9 := HA.out.2.2.2.keep hp
    have hb9 := below_then HA.out.1 hp
    clear hF
    show wpList Try.prog _ _ [_] _ _
    simp [stL, Act.put, e5]
    refine wp_st rfl 26 _ _ rfl (w.heap.size + 1 + 1) 0 [.bool neg', .slice A' l'.length c'] rfl rfl size_Int rfl b9 (Nat.le_refl _) rfl ?_
    intro W9 c9 g9
    have hW := put_facts (g := w.heap.size + 1 + 1) hb9 (by omega) g9
    have HO := Lib.hid ((o5.1.away g9 HA.out.2.2.2.1).base (base' := w.heap.size) HA.out.1.size)
    have HC := Lib.hid (And.intro c9 (And.intro hW o5.2))
    clear c9 g9 hW o5 e5 b9 hb9 hp
    go_wp2_with fail
    obtain ⟨dsc, hd1, hd2⟩ := row_Int
    refine bodyPost_ret (resC rfl _ _ W9 (g := w.heap.size + 1 + 1) rfl (res_box 26 HC.out.1 dsc hd1 hd2 size_Int)) rfl ?_
    exact ⟨_, rfl, ⟨neg', A', c', l', rfl, HO.out, HC.out.2.2.1, HC.out.2.2.2.1, by rw [HC.out.2.2.2.2]; exact HZ.out⟩, HC.out.2.1⟩
  · have hs' : (na == nb) = false := by simp [hs]
    by_cases hr : R = -1
    · have HZ : Hid (sgn nb X3 = Z) := Lib.hid (by
        have h := HF.out
        have h1 := (cmp_facts3 x y).1 (by rw [h.2.2.2.2]; exact hr)
        have h2 := h.2.2.2.1
        rw [if_neg (by omega)] at h2
        rw [← h.1, ← h2]
        cases na <;> cases nb <;> simp [sgn] at hs ⊢ <;> omega)
      subst hr
      clear hs
      go_upto_region 4 with (go_at_call 95; (with_reducible refine (CQ.out _ HB.out.1).mono ?_); rintro e1 wA ⟨rfl, hb1⟩; have HA := Lib.hid (And.intro (below_then HB.out.1 hb1) (And.intro (HB.out.2.1.keep hb1) (And.intro (HB.out.2.2.1.keep hb1) (HB.out.2.2.2.keep hb1)))); clear hb1)
      clear y1 y2 y3 y4 HB
      refine wp_region_grow2 (fun i => Nat.blt i 8) (fun _ => false) (fun w9 => Below wA.heap.size wA w9) (fun a b => Below a.heap.size a b) (dN wA.heap.size [.v (.pointer (some ⟨w.heap.size + 1, 0, none⟩)), .v (.bool nb), .v (.pointer (some ⟨w.heap.size + 1, 1, none⟩)), .v (.slice B m d), .v (.pointer (some ⟨w.heap.size, 1, none⟩)), .v (.slice A n c), .num X3 K, .int (sgn nb X3) K]) (by kernel_rfl) (by kernel_rfl) (Below.refl _ _).drew (fun a b h1 h2 => ⟨below_then h1 h2, fun i _ v => dN_keep h2 i v⟩) (fun _ _ => Below.refl _ _) ?_ (fun _ _ _ _ h => by cases h) ?_
      · refine ⟨?_, ?_, ?_, ?_, ?_, ?_, ?_, ?_, trivial⟩
        all_goals
          intro vs w9 hp hF
          have HP := Lib.hid hp
          obtain ⟨z1, z2⟩ := (HA.out.2.1.keep hp).c2
          obtain ⟨z3, z4⟩ := (HA.out.2.2.1.keep hp).c2
          clear hp
          simp [depsB, Region.binds, dN] at hF
          simp [stL, depsB, Region.binds, Act.put, hF]
        · (go_wp2_with fail; exact ⟨rfl, Below.refl _ _⟩)
        · (go_wp2_with fail; exact ⟨rfl, Below.refl _ _⟩)
        · (go_wp2_with fail; exact ⟨rfl, Below.refl _ _⟩)
        · (go_wp2_with fail; exact ⟨rfl, Below.refl _ _⟩)
        · (go_wp2_with fail; exact ⟨rfl, Below.refl _ _⟩)
        · (go_wp2_with fail; exact ⟨rfl, Below.refl _ _⟩)
        · go_wp2_with (go_at_call 122; (with_reducible refine (CT.out _ (below_then HA.out.1 HP.out)).mono ?_); intro e1 w1' h1; obtain ⟨v1, rfl, o1, hb1⟩ := h1.num (b := wA.heap.size) HP.out.size)
          exact o1
        · obtain ⟨h1, A', c', l', e4, o4, n4, m4, k4⟩ := hF
          simp only [e4]
          go_wp2_with (go_at_call 114; (with_reducible refine (it_signed _ _ _ _ _).mono ?_); rintro e1 w1' ⟨rfl, hb1⟩)
          exact ⟨_, A', c', l', rfl, o4.grow hb1, m4, k4, by rw [sgn_len m4 o4.dig, n4]⟩
      intro vs w9 hp hF
      obtain ⟨neg', A', c', l', e5, o5⟩ : IntO wA.heap.size w9 (vs 7) (sgn nb X3) K := hF 7 (by decide) rfl
      have b9 := HA.out.2.2.2.keep hp
      have hb9 := below_then HA.out.1 hp
      clear hF
      show wpList Try.prog _ _ [_] _ _
      simp [stL, Act.put, e5]
      refine wp_st rfl 26 _ _ rfl (w.heap.size + 1 + 1) 0 [.bool neg', .slice A' l'.length c'] rfl rfl size_Int rfl b9 (Nat.le_refl _) rfl ?_
      intro W9 c9 g9
      have hW := put_facts (g := w.heap.size + 1 + 1) hb9 (by omega) g9
      have HO := Lib.hid ((o5.1.away g9 HA.out.2.2.2.1).base (base' := w.heap.size) HA.out.1.size)
      have HC := Lib.hid (And.intro c9 (And.intro hW o5.2))
      clear c9 g9 hW o5 e5 b9 hb9 hp
      go_wp2_with fail
      obtain ⟨dsc, hd1, hd2⟩ := row_Int
      refine bodyPost_ret (resC rfl _ _ W9 (g := w.heap.size + 1 + 1) rfl (res_box 26 HC.out.1 dsc hd1 hd2 size_Int)) rfl ?_
      exact ⟨_, rfl, ⟨neg', A', c', l', rfl, HO.out, HC.out.2.2.1, HC.out.2.2.2.1, by rw [HC.out.2.2.2.2]; exact HZ.out⟩, HC.out.2.1⟩
    · have HZ : Hid (sgn na X2 = Z) := Lib.hid (by
        have h := HF.out
        have h1 := (cmp_facts3 x y).2 (by rw [h.2.2.2.2]; exact hr)
        have h2 : x - y = X2 := by
          rw [← h.2.2.1]
          split <;> omega
        rw [← h.1, ← h2]
        cases na <;> cases nb <;> simp [sgn] at hs ⊢ <;> omega)
      have hr' : (R == -1) = false := by simp [hr]
      clear hs
      go_upto_region 5 with (go_at_call 95; (with_reducible refine (CQ.out _ HB.out.1).mono ?_); rintro e1 wA ⟨rfl, hb1⟩; have HA := Lib.hid (And.intro (below_then HB.out.1 hb1) (And.intro (HB.out.2.1.keep hb1) (And.intro (HB.out.2.2.1.keep hb1) (HB.out.2.2.2.keep hb1)))); clear hb1)
      clear y1 y2 y3 y4 HB
      refine wp_region_grow2 (fun i => Nat.blt i 8) (fun _ => false) (fun w9 => Below wA.heap.size wA w9) (fun a b => Below a.heap.size a b) (dN wA.heap.size [.v (.pointer (some ⟨w.heap.size, 0, none⟩)), .v (.bool na), .v (.pointer (some ⟨w.heap.size, 1, none⟩)), .v (.slice A n c), .v (.pointer (some ⟨w.heap.size + 1, 1, none⟩)), .v (.slice B m d), .num X2 K, .int (sgn na X2) K]) (by kernel_rfl) (by kernel_rfl) (Below.refl _ _).drew (fun a b h1 h2 => ⟨below_then h1 h2, fun i _ v => dN_keep h2 i v⟩) (fun _ _ => Below.refl _ _) ?_ (fun _ _ _ _ h => by cases h) ?_
      · refine ⟨?_, ?_, ?_, ?_, ?_, ?_, ?_, ?_, trivial⟩
        all_goals
          intro vs w9 hp hF
          have HP := Lib.hid hp
          obtain ⟨z1, z2⟩ := (HA.out.2.1.keep hp).c2
          obtain ⟨z3, z4⟩ := (HA.out.2.2.1.keep hp).c2
          clear hp
          simp [depsB, Region.binds, dN] at hF
          simp [stL, depsB, Region.binds, Act.put, hF]
        · (go_wp2_with fail; exact ⟨rfl, Below.refl _ _⟩)
        · (go_wp2_with fail; exact ⟨rfl, Below.refl _ _⟩)
        · (go_wp2_with fail; exact ⟨rfl, Below.refl _ _⟩)
        · (go_wp2_with fail; exact ⟨rfl, Below.refl _ _⟩)
        · (go_wp2_with fail; exact ⟨rfl, Below.refl _ _⟩)
        · (go_wp2_with fail; exact ⟨rfl, Below.refl _ _⟩)
        · go_wp2_with (go_at_call 122; (with_reducible refine (CS.out _ (below_then HA.out.1 HP.out)).mono ?_); intro e1 w1' h1; obtain ⟨v1, rfl, o1, hb1⟩ := h1.num (b := wA.heap.size) HP.out.size)
          exact o1
        · obtain ⟨h1, A', c', l', e4, o4, n4, m4, k4⟩ := hF
          simp only [e4]
          go_wp2_with (go_at_call 114; (with_reducible refine (it_signed _ _ _ _ _).mono ?_); rintro e1 w1' ⟨rfl, hb1⟩)
          exact ⟨_, A', c', l', rfl, o4.grow hb1, m4, k4, by rw [sgn_len m4 o4.dig, n4]⟩
      intro vs w9 hp hF
      obtain ⟨neg', A', c', l', e5, o5⟩ : IntO wA.heap.size w9 (vs 7) (sgn na X2) K := hF 7 (by decide) rfl
      have b9 := HA.out.2.2.2.keep hp
      have hb9 := below_then HA.out.1 hp
      clear hF
      show wpList Try.prog _ _ [_] _ _
      simp [stL, Act.put, e5]
      refine wp_st rfl 26 _ _ rfl (w.heap.size + 1 + 1) 0 [.bool neg', .slice A' l'.length c'] rfl rfl size_Int rfl b9 (Nat.le_refl _) rfl ?_
      intro W9 c9 g9
      have hW := put_facts (g := w.heap.size + 1 + 1) hb9 (by omega) g9
      have HO := Lib.hid ((o5.1.away g9 HA.out.2.2.2.1).base (base' := w.heap.size) HA.out.1.size)
      have HC := Lib.hid (And.intro c9 (And.intro hW o5.2))
      clear c9 g9 hW o5 e5 b9 hb9 hp
      go_wp2_with fail
      obtain ⟨dsc, hd1, hd2⟩ := row_Int
      refine bodyPost_ret (resC rfl _ _ W9 (g := w.heap.size + 1 + 1) rfl (res_box 26 HC.out.1 dsc hd1 hd2 size_Int)) rfl ?_
      exact ⟨_, rfl, ⟨neg', A', c', l', rfl, HO.out, HC.out.2.2.1, HC.out.2.2.2.1, by rw [HC.out.2.2.2.2]; exact HZ.out⟩, HC.out.2.1⟩
end Go.Proofs.Ytmdfgidejdiiiaa
end
section
namespace Go.Proofs.Ytmdfgidejdiiiaa
open Go.RowKit
theorem abs_facts {k : Int} (h : I64 k) : ∃ t : Int, (if k < 0 then -k else k) = t ∧ 0 ≤ t ∧ t < 18446744073709551616 ∧ (k < 0 → t = -k) ∧ (0 ≤ k → t = k) := by
  unfold I64 at h
  refine ⟨_, rfl, ?_, ?_, ?_, ?_⟩ <;> split <;> omega
set_option maxRecDepth 100000 in
set_option maxHeartbeats 4000000 in
theorem it_Of (k : Int) (w : World) (hk : I64 k) : Calls Try.prog 91 #[.int .i64 k] w (RetI w k 2) := by
  obtain ⟨t, -, t0, t1, tn, tp⟩ := abs_facts hk
  unfold I64 at hk
  have z1 : 0 ≤ t % 4294967296 ∧ t % 4294967296 < 4294967296 := by omega
  have z2 : 0 ≤ t / 4294967296 ∧ t / 4294967296 < 4294967296 := by omega
  have HT := Lib.hid (And.intro tn tp)
  by_cases hn : k < 0
  · have hw : IntKind.u64.wrap (-IntKind.u64.wrap k) = t := by rw [wrapU, wrapU, tn hn]; omega
    clear tn tp
    go_enter Try.func91, Try.ntmps91
    go_upto_region 4 with fail
    have hB : Below w.heap.size w (w.alloc (.cells #[.bool false, .slice none 0 0] 26)) := (Below.refl _ _).alloc (Nat.le_refl _) _
    have b3 : Box (w.alloc (.cells #[.bool false, .slice none 0 0] 26)) w.heap.size [.bool false, .slice none 0 0] := Box.new rfl
    generalize w.alloc (.cells #[.bool false, .slice none 0 0] 26) = wA at hB b3 ⊢
    have hb1 := (Below.refl wA.heap.size wA).alloc (Nat.le_refl _) (.cells #[.int .u32 (t % 4294967296), .int .u32 (t / 4294967296)] 77)
    have CT : Hid (Calls Try.prog 120 #[.slice (some ⟨wA.heap.size, 0, none⟩) 2 2] (wA.alloc (.cells #[.int .u32 (t % 4294967296), .int .u32 (t / 4294967296)] 77)) (RetN (wA.alloc (.cells #[.int .u32 (t % 4294967296), .int .u32 (t / 4294967296)] 77)) (nv [t % 4294967296, t / 4294967296]) 2)) := Lib.hid (nt_Trim _ 2 2 [t % 4294967296, t / 4294967296] _ (digA_two z1 z2).digA rfl (Nat.le_refl _) (by omega))
    rw [show nv [t % 4294967296, t / 4294967296] = t by simp only [nv]; omega] at CT
    have HA := Lib.hid (And.intro hB (And.intro b3 hb1))
    clear hB b3 hb1
    go_wp2_with (first
      | (go_at_call 120; (with_reducible refine CT.out.mono ?_); intro e1 w1 h1; obtain ⟨v1, rfl, ⟨A1, c1, l1, rfl, o1, n1, m1, k1⟩, hb2⟩ := h1.num (b := wA.heap.size) HA.out.2.2.size; have HO1 := Lib.hid (And.intro o1 (And.intro n1 (And.intro m1 k1))); have HB2 := Lib.hid (below_then HA.out.2.2 hb2); clear o1 n1 m1 k1 hb2)
      | (go_at_call 114; (with_reducible refine (it_signed _ _ _ _ _).mono ?_); rintro e2 w2 ⟨rfl, hb3⟩; have HB3 := Lib.hid hb3; clear hb3)
      | ((with_reducible show wpList _ _ _ (Oper.mk none (.store 26 _ _) _ _ _ _ :: _) _ _); refine wp_st rfl 26 _ _ rfl w.heap.size 0 [_, _] rfl rfl size_Int rfl ((HA.out.2.1.keep HB2.out).keep HB3.out) (Nat.le_refl _) rfl ?_; intro W9 c9 g9))
    have hb9 := below_then (below_then HA.out.1 HB2.out) HB3.out
    have hW := put_facts (g := w.heap.size) hb9 (Nat.le_refl _) g9
    have ho := ((HO1.out.1.grow HB3.out).away g9 HA.out.2.1.1).base (base' := w.heap.size) HA.out.1.size
    obtain ⟨dsc, hd1, hd2⟩ := row_Int
    refine bodyPost_ret (resC rfl _ _ W9 (g := w.heap.size) rfl (res_box 26 c9 dsc hd1 hd2 size_Int)) rfl ?_
    exact ⟨_, rfl, ⟨_, A1, c1, l1, rfl, ho, HO1.out.2.2.1, HO1.out.2.2.2, by rw [← Bool.true_and (decide (0 < l1.length)), sgn_len HO1.out.2.2.1 ho.dig, HO1.out.2.1]; have := HT.out.1 hn; simp [sgn]; omega⟩, hW⟩
  · have hw : IntKind.u64.wrap k = t := by rw [wrapU, tp (by omega)]; omega
    clear tn tp
    go_enter Try.func91, Try.ntmps91
    go_upto_region 4 with fail
    have hB : Below w.heap.size w (w.alloc (.cells #[.bool false, .slice none 0 0] 26)) := (Below.refl _ _).alloc (Nat.le_refl _) _
    have b3 : Box (w.alloc (.cells #[.bool false, .slice none 0 0] 26)) w.heap.size [.bool false, .slice none 0 0] := Box.new rfl
    generalize w.alloc (.cells #[.bool false, .slice none 0 0] 26) = wA at hB b3 ⊢
    have hb1 := (Below.refl wA.heap.size wA).alloc (Nat.le_refl _) (.cells #[.int .u32 (t % 4294967296), .int .u32 (t / 4294967296)] 77)
    have CT : Hid (Calls Try.prog 120 #[.slice (some ⟨wA.heap.size, 0, none⟩) 2 2] (wA.alloc (.cells #[.int .u32 (t % 4294967296), .int .u32 (t / 4294967296)] 77)) (RetN (wA.alloc (.cells #[.int .u32 (t % 4294967296), .int .u32 (t / 4294967296)] 77)) (nv [t % 4294967296, t / 4294967296]) 2)) := Lib.hid (nt_Trim _ 2 2 [t % 4294967296, t / 4294967296] _ (digA_two z1 z2).digA rfl (Nat.le_refl _) (by omega))
    rw [show nv [t % 4294967296, t / 4294967296] = t by simp only [nv]; omega] at CT
    have HA := Lib.hid (And.intro hB (And.intro b3 hb1))
    clear hB b3 hb1
    go_wp2_with (first
      | (go_at_call 120; (with_reducible refine CT.out.mono ?_); intro e1 w1 h1; obtain ⟨v1, rfl, ⟨A1, c1, l1, rfl, o1, n1, m1, k1⟩, hb2⟩ := h1.num (b := wA.heap.size) HA.out.2.2.size; have HO1 := Lib.hid (And.intro o1 (And.intro n1 (And.intro m1 k1))); have HB2 := Lib.hid (below_then HA.out.2.2 hb2); clear o1 n1 m1 k1 hb2)
      | (go_at_call 114; (with_reducible refine (it_signed _ _ _ _ _).mono ?_); rintro e2 w2 ⟨rfl, hb3⟩; have HB3 := Lib.hid hb3; clear hb3)
      | ((with_reducible show wpList _ _ _ (Oper.mk none (.store 26 _ _) _ _ _ _ :: _) _ _); refine wp_st rfl 26 _ _ rfl w.heap.size 0 [_, _] rfl rfl size_Int rfl ((HA.out.2.1.keep HB2.out).keep HB3.out) (Nat.le_refl _) rfl ?_; intro W9 c9 g9))
    have hb9 := below_then (below_then HA.out.1 HB2.out) HB3.out
    have hW := put_facts (g := w.heap.size) hb9 (Nat.le_refl _) g9
    have ho := ((HO1.out.1.grow HB3.out).away g9 HA.out.2.1.1).base (base' := w.heap.size) HA.out.1.size
    obtain ⟨dsc, hd1, hd2⟩ := row_Int
    refine bodyPost_ret (resC rfl _ _ W9 (g := w.heap.size) rfl (res_box 26 c9 dsc hd1 hd2 size_Int)) rfl ?_
    exact ⟨_, rfl, ⟨_, A1, c1, l1, rfl, ho, HO1.out.2.2.1, HO1.out.2.2.2, by show sgn false (nv l1) = k; rw [show sgn false (nv l1) = nv l1 from rfl, HO1.out.2.1]; exact HT.out.2 (by omega)⟩, hW⟩
end Go.Proofs.Ytmdfgidejdiiiaa
end
section
namespace Go.Proofs.Ytmdfgidejdiiiaa
open Go.RowKit
theorem size_Rat : (Try.prog.info? 28).map (·.size) = some 3 := by kernel_rfl
theorem row_Rat : ∃ d, Try.prog.underlying 28 = some d ∧ d.isRow = true := ⟨_, Try.underlying28, rfl⟩
def RetWh (w : World) (neg : Bool) (A : Option Addr) (n c : Nat) (e : Ending) (w' : World) : Prop := ∃ g, e = .returned (.agg #[.bool neg, .slice A n c, .slice (some ⟨g, 0, none⟩) 1 1]) ∧ OwG w.heap.size w' (.slice (some ⟨g, 0, none⟩) 1 1) [1] ∧ Below w.heap.size w w'
theorem rt_whole (neg : Bool) (A : Option Addr) (n c : Nat) (w : World) : Calls Try.prog 88 #[.agg #[.bool neg, .slice A n c]] w (RetWh w neg A n c) := by
  go_enter Try.func88, Try.ntmps88
  go_wp2_with fail
  obtain ⟨dsc, hd1, hd2⟩ := row_Rat
  obtain ⟨W1, hW1⟩ : ∃ W, W = (w.alloc (.cells #[.bool neg, .slice A n c] 26)).alloc (.cells #[.bool neg, .slice A n c, .slice (some ⟨w.heap.size + 1 + 1, 0, none⟩) 1 1] 28) := ⟨_, rfl⟩
  have hs : W1.heap.size = w.heap.size + 1 + 1 := by rw [hW1]; simp
  have hb : Below w.heap.size w W1 := by rw [hW1]; exact ((Below.refl _ _).alloc (Nat.le_refl _) _).alloc (by simp) _
  have b2 : Box W1 (w.heap.size + 1) [.bool neg, .slice A n c, .slice (some ⟨w.heap.size + 1 + 1, 0, none⟩) 1 1] := by rw [hW1]; exact Box.new (by simp)
  have ho := digA_one (w := W1) (x := 1) (by omega)
  rw [hs] at ho
  refine bodyPost_ret (resC rfl _ _ _ (g := w.heap.size + 1) rfl (res_box 28 (?_ : Box _ (w.heap.size + 1) [.bool neg, .slice A n c, .slice (some ⟨w.heap.size + 1 + 1, 0, none⟩) 1 1]) dsc hd1 hd2 size_Rat)) rfl ?_
  · rw [← hW1]; exact b2.alloc _
  · rw [← hW1]; exact ⟨_, rfl, ho.base (by omega), hb.alloc hb.size _⟩
def RatO (b : Nat) (w : World) (v : Value) (p q : Int) (K M : Nat) : Prop := ∃ neg A c l B d r, v = .agg #[.bool neg, .slice A l.length c, .slice B r.length d] ∧ (OwG b w (.slice A l.length c) l ∧ l.length ≤ K ∧ sgn neg (nv l) = p) ∧ (OwG b w (.slice B r.length d) r ∧ r.length ≤ M ∧ nv r = q)
def RetR (w : World) (p q : Int) (K M : Nat) (e : Ending) (w' : World) : Prop := ∃ v, e = .returned v ∧ RatO w.heap.size w' v p q K M ∧ Below w.heap.size w w'
theorem rt_Of (k : Int) (w : World) (hk : I64 k) : Calls Try.prog 43 #[.int .i64 k] w (RetR w k 1 2 1) := by
  have CO : Hid (∀ w1, Calls Try.prog 91 #[.int .i64 k] w1 (RetI w1 k 2)) := Lib.hid fun w1 => it_Of k w1 hk
  unfold I64 at hk
  go_enter Try.func43, Try.ntmps43
  go_upto_region 1 with fail
  have hB : Below w.heap.size w (w.alloc (.cells #[.bool false, .slice none 0 0, .slice none 0 0] 28)) := (Below.refl _ _).alloc (Nat.le_refl _) _
  have b3 : Box (w.alloc (.cells #[.bool false, .slice none 0 0, .slice none 0 0] 28)) w.heap.size [.bool false, .slice none 0 0, .slice none 0 0] := Box.new rfl
  generalize w.alloc (.cells #[.bool false, .slice none 0 0, .slice none 0 0] 28) = wA at hB b3 ⊢
  have HA := Lib.hid (And.intro hB b3)
  clear hB b3
  go_wp2_with (first
    | (go_at_call 91; (with_reducible refine (CO.out _).mono ?_); rintro e1 w1 ⟨v1, rfl, ⟨ng, A1, c1, l1, rfl, o1, m1, k1, s1⟩, hb1⟩; have HO := Lib.hid (And.intro o1 (And.intro k1 s1)); have HB1 := Lib.hid hb1; clear o1 m1 k1 s1 hb1)
    | (go_at_call 88; (with_reducible refine (rt_whole _ _ _ _ _).mono ?_); rintro e2 w2 ⟨g2, rfl, o2, hb2⟩; have HO2 := Lib.hid o2; have HB2 := Lib.hid hb2; clear o2 hb2)
    | ((with_reducible show wpList _ _ _ (Oper.mk none (.store 28 _ _) _ _ _ _ :: _) _ _); refine wp_st rfl 28 _ _ rfl w.heap.size 0 [_, _, _] rfl rfl size_Rat rfl ((HA.out.2.keep HB1.out).keep HB2.out) (Nat.le_refl _) rfl ?_; intro W9 c9 g9))
  have hW := put_facts (g := w.heap.size) (below_then (below_then HA.out.1 HB1.out) HB2.out) (Nat.le_refl _) g9
  have h1 := ((HO.out.1.grow HB2.out).away g9 HA.out.2.1).base (base' := w.heap.size) HA.out.1.size
  have h2 := (HO2.out.away g9 (Nat.lt_of_lt_of_le HA.out.2.1 HB1.out.size)).base (base' := w.heap.size) (Nat.le_trans HA.out.1.size HB1.out.size)
  obtain ⟨dsc, hd1, hd2⟩ := row_Rat
  refine bodyPost_ret (resC rfl _ _ W9 (g := w.heap.size) rfl (res_box 28 c9 dsc hd1 hd2 size_Rat)) rfl ?_
  exact ⟨_, rfl, ⟨ng, A1, c1, l1, _, 1, [1], rfl, ⟨h1, HO.out.2.1, HO.out.2.2⟩, h2, Nat.le_refl _, rfl⟩, hW⟩
end Go.Proofs.Ytmdfgidejdiiiaa
end
