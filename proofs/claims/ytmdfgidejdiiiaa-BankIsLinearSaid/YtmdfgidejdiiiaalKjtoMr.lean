/- Several texts in one: Kj Kn Kk Mw Mx Mr. -/
import Derived.Test.YtmdfgidejdiiiaalKi
import Derived.Test.YtmdfgidejdiiiaalV5toV8
import Derived.Test.YtmdfgidejdiiiaalV9toU
import Derived.Test.YtmdfgidejdiiiaalPltoZa
import Derived.Maps.AppendAt
import Derived.BigQuiet
import Derived.Test.YtmdfgidejdiiiaalFxtoV1
import Derived.Test.YtmdfgidejdiiiaalJ2toVp
set_option linter.unusedVariables false
set_option linter.unusedSimpArgs false
section
namespace Go.Proofs.Ytmdfgidejdiiiaa
open Go.RowKit
def lift1Q (p : List Rat × List Rat) (s : Lft) : List Rat × List Rat := if s.1 = true then (p.1, exqT s p.2 p.1) else (exqT s p.1 p.2, p.2)
def exaF (ls : List Lft) (p : List Rat × List Rat) : List Rat × List Rat := ls.foldl lift1Q p
def evQ (x : List Rat) (h : Nat) : List Rat := (List.range h).map fun i => elQ x (2 * i)
def odQ (x : List Rat) (h : Nat) : List Rat := (List.range h).map fun i => elQ x (2 * i + 1)
def exactF (ls : List Lft) (x : List Rat) (h : Nat) : List Rat × List Rat := exaF ls (evQ x h, odQ x h)
theorem evQ_length (x : List Rat) (h : Nat) : (evQ x h).length = h := by simp [evQ]
theorem odQ_length (x : List Rat) (h : Nat) : (odQ x h).length = h := by simp [odQ]
theorem evQ_succ (x : List Rat) (h : Nat) : evQ x (h + 1) = evQ x h ++ [elQ x (2 * h)] := by simp [evQ, List.range_succ]
theorem odQ_succ (x : List Rat) (h : Nat) : odQ x (h + 1) = odQ x h ++ [elQ x (2 * h + 1)] := by simp [odQ, List.range_succ]
theorem exa_take {ls : List Lft} {k : Nat} {s : Lft} (h : ls[k]? = some s) (p : List Rat × List Rat) : exaF (ls.take (k + 1)) p = lift1Q (exaF (ls.take k) p) s := by
  unfold exaF
  rw [List.take_add_one, h, Option.toList_some, List.foldl_append]
  rfl
theorem lift1Q_length (p : List Rat × List Rat) (s : Lft) : (lift1Q p s).1.length = p.1.length ∧ (lift1Q p s).2.length = p.2.length := by
  unfold lift1Q
  split
  · exact ⟨rfl, exqT_length _ _ _⟩
  · exact ⟨exqT_length _ _ _, rfl⟩
theorem exa_length (ls : List Lft) : ∀ p : List Rat × List Rat, (exaF ls p).1.length = p.1.length ∧ (exaF ls p).2.length = p.2.length := by
  induction ls with
  | nil => intro p; exact ⟨rfl, rfl⟩
  | cons s l ih =>
    intro p
    have h1 := ih (lift1Q p s)
    have h2 := lift1Q_length p s
    exact ⟨h1.1.trans h2.1, h1.2.trans h2.2⟩
def RetRR (w : World) (z1 z2 : List Rat) (M : Nat) (e : Ending) (w' : World) : Prop := ∃ v1 v2, e = .returned (.tuple #[v1, v2, .int .i64 0]) ∧ RowQ w.heap.size w' v1 z1 M ∧ RowQ w.heap.size w' v2 z2 M ∧ Below w.heap.size w w'
def Apart (v u : Value) : Prop := v.ownBlock = none ∨ v.ownBlock ≠ u.ownBlock
theorem Apart.swap {v u : Value} (h : Apart v u) : Apart u v := by
  rcases h with h | h
  · cases hu : u.ownBlock with
    | none => exact .inl hu
    | some g => exact .inr (by rw [hu, h]; simp)
  · exact .inr (Ne.symm h)
def TwoQ (b : Nat) (w : World) (v u : Value) (z1 z2 : List Rat) (K : Nat) : Prop := RowQ b w v z1 K ∧ RowQ b w u z2 K ∧ Apart v u
theorem TwoQ.grow {b : Nat} {w w' : World} {v u : Value} {z1 z2 : List Rat} {K : Nat} (h : TwoQ b w v u z1 z2 K) (hb : Below w.heap.size w w') : TwoQ b w' v u z1 z2 K := ⟨h.1.grow hb, h.2.1.grow hb, h.2.2⟩
theorem TwoQ.swap {b : Nat} {w : World} {v u : Value} {z1 z2 : List Rat} {K : Nat} (h : TwoQ b w v u z1 z2 K) : TwoQ b w u v z2 z1 K := ⟨h.2.1, h.1, h.2.2.swap⟩
theorem TwoQ.app {b : Nat} {w w' : World} {v v' u : Value} {z1 z2 : List Rat} {z : Rat} {K : Nat} (h : TwoQ b w v u z1 z2 K) (hr : RowQ b w' v' (z1 ++ [z]) K) (ho : v'.ownBlock = v.ownBlock ∨ v'.ownBlock = some (w.heap.size + 1)) (hg : w.grownBy w' v.ownBlock) : TwoQ b w' v' u (z1 ++ [z]) z2 K := by
  refine ⟨hr, h.2.1.kept hg h.1.ty (Apart.swap h.2.2), ?_⟩
  rcases ho with ho | ho
  · rcases h.2.2 with h1 | h1
    · exact .inl (ho.trans h1)
    · exact .inr (by rw [ho]; exact h1)
  · refine .inr fun e => ?_
    have := h.2.1.lt (w.heap.size + 1) (by rw [← e, ho])
    omega
theorem TwoQ.step {b : Nat} {w w' : World} {v u : Value} {z1 z2 y : List Rat} {K M : Nat} (h : TwoQ b w v u z1 z2 K) (hr : RowQ b w' v y M) (hg : w.grownBy w' v.ownBlock) (hk : K ≤ M) : TwoQ b w' v u y z2 M := ⟨hr, (h.2.1.kept hg h.1.ty (Apart.swap h.2.2)).le hk, h.2.2⟩
theorem RowQ.err {b g : Nat} {w w' : World} {v : Value} {zs : List Rat} {K : Nat} {t : TypeId} (h : RowQ b w v zs K) (hg : w.grownBy w' (some g)) (ht : TyB w g t) (hn : t ≠ 77) (hb : g < b) : RowQ b w' v zs K := by
  obtain ⟨us, h1, h2, h3⟩ := h
  exact ⟨us, h1.kept hg (.inr fun e => by have := (h1.lt g e).1; omega), h2, fun i u z a b => (h3 i u z a b).keptT hg ht hn⟩
theorem TwoQ.err {b g : Nat} {w w' : World} {v u : Value} {z1 z2 : List Rat} {K : Nat} {t : TypeId} (h : TwoQ b w v u z1 z2 K) (hg : w.grownBy w' (some g)) (ht : TyB w g t) (hn : t ≠ 77) (hb : g < b) : TwoQ b w' v u z1 z2 K := ⟨h.1.err hg ht hn hb, h.2.1.err hg ht hn hb, h.2.2⟩
theorem below_own {b : Nat} {w w' : World} {v : Value} {z1 : List Rat} {K : Nat} (h : RowQ b w v z1 K) (hg : w.grownBy w' v.ownBlock) (hb : b ≤ w.heap.size) : Below b w w' := (Below.refl _ _).grown hg hb (fun k e => (h.lt k e).1)
set_option maxRecDepth 100000 in
set_option maxHeartbeats 4000000 in
theorem bk_Exact (A B : Option Addr) (ls : List Lft) (xs : List Rat) (c d n N h K bx : Nat) (w : World) (hL : Lifts w A ls) (hX : RowQ bx w (.slice B N d) xs K) (hn : ls.length = n) (hn5 : n ≤ 5) (hok : lftsB ls = true) (hc3 : ∀ s ∈ ls, s.2.2.1.length ≤ 3) (hN : N = 2 * h) (hN2 : N ≤ 4096) (hK : 2 ≤ K ∧ K ≤ 5) :
    Calls Try.prog 29 #[.slice A n c, .slice B N d] w (RetRR w (exactF ls xs h).1 (exactF ls xs h).2 10240) := by
  have HL0 := Lib.hid hL
  have HX0 := Lib.hid hX
  have HLN := Lib.hid hX.len
  have HLF := Lib.hid (lfts_ok hok)
  have HC3 := Lib.hid hc3
  have CV : Hid (∀ w1, Below w.heap.size w w1 → Calls Try.prog 23 #[.slice A n c] w1 fun e w' => e = .returned (.bool true) ∧ Below w1.heap.size w1 w') := Lib.hid fun w1 hb => by
    have h1 := bk_Valid A ls c w1 (hL.grow hb) (by omega) (fun s hs => by have := hc3 s hs; omega)
    rw [hok, hn] at h1
    exact h1
  have h0 : Below w.heap.size w ((w.alloc (.cells #[.int .i64 0] 40)).alloc (.cells #[.int .i64 0] 89)) := ((Below.refl _ _).alloc (Nat.le_refl _) _).alloc (by simp) _
  have k0 : CheckAt ((w.alloc (.cells #[.int .i64 0] 40)).alloc (.cells #[.int .i64 0] 89)) w.heap.size 0 := ⟨by simp [go_sem], by simp [go_sem]⟩
  have k1 : CheckAt ((w.alloc (.cells #[.int .i64 0] 40)).alloc (.cells #[.int .i64 0] 89)) (w.heap.size + 1) 0 := ⟨by simp [go_sem], by simp [go_sem]⟩
  have kt : TyB ((w.alloc (.cells #[.int .i64 0] 40)).alloc (.cells #[.int .i64 0] 89)) w.heap.size 40 := TyB.new.grow ((Below.refl _ _).alloc (Nat.le_refl _) _)
  have KT := Lib.hid kt
  have H0 := Lib.hid h0
  have K0 := Lib.hid k0
  have K1 := Lib.hid k1
  have xe1 : (N : Int) % 2 = 0 := by omega
  have xe2 : (N : Int) ≤ 4096 := by omega
  have HNN := Lib.hid hN
  have HNL := Lib.hid hn
  have HKK := Lib.hid hK
  clear h0 k0 k1 kt hL hX hok hc3 hN hn hK
  obtain ⟨dsR, hR1, hR2⟩ := row_Rat
  have HRR := Lib.hid (And.intro hR1 hR2)
  clear hR1 hR2
  go_enter_defers Try.func29, Try.ntmps29
  go_wp2_with fail
  refine (CV.out _ H0.out).mono ?_
  rintro e w1 ⟨rfl, hb1⟩
  have hb := H0.out.trans (hb1.mono H0.out.size)
  have hk0 := K0.out.keep hb1
  have ht0 := KT.out.grow hb1
  have hk1 := K1.out.keep hb1
  clear hb1 K0 K1 H0 CV KT
  go_wp2_with fail
  refine (bk_need (w.heap.size + 1) 0 2 true _ hk1 (by decide)).mono ?_
  rintro e w2 ⟨he, hk1, hg⟩
  have he : e = .returned (.bool true) := he
  subst he
  have hk1 : CheckAt w2 (w.heap.size + 1) 0 := hk1
  have hb := grown_to hb hg (by omega)
  have hk0 := hk0.kept hg (by omega)
  have ht0 := ht0.kept hg (by omega)
  clear hg
  go_wp2_with fail
  refine (bk_need (w.heap.size + 1) 0 1 true _ hk1 (by decide)).mono ?_
  rintro e w3 ⟨he, hk1, hg⟩
  have he : e = .returned (.bool true) := he
  subst he
  have hk1 : CheckAt w3 (w.heap.size + 1) 0 := hk1
  have hb := grown_to hb hg (by omega)
  have hk0 := hk0.kept hg (by omega)
  have ht0 := ht0.kept hg (by omega)
  clear hg
  go_wp2_with fail
  refine (bk_need (w.heap.size + 1) 0 4 true _ hk1 (by decide)).mono ?_
  rintro e w4 ⟨he, hk1, hg⟩
  have he : e = .returned (.bool true) := he
  subst he
  have hk1 : CheckAt w4 (w.heap.size + 1) 0 := hk1
  have hb := grown_to hb hg (by omega)
  have hk0 := hk0.kept hg (by omega)
  have ht0 := ht0.kept hg (by omega)
  clear hg
  have HB4 := Lib.hid hb
  have HK0 := Lib.hid hk0
  have HTY := Lib.hid ht0
  have HK1 := Lib.hid hk1
  have HSZ : Hid (w.heap.size + 1 < w4.heap.size) := Lib.hid (cell_lt hk1.1)
  clear hb hk0 hk1 ht0 xe1 xe2
  go_upto_region 7 with fail
  go_wp2_with fail
  go_loopw [4, 5, 8] (fun v u i wr => ∃ (k m : Nat), k ≤ h ∧ Hid (m = 2 * k) ∧ i = .int .i64 (m : Int) ∧ Hid (TwoQ w4.heap.size wr v u (evQ xs k) (odQ xs k) K) ∧ Hid (Below w4.heap.size w4 wr)) (fun _ _ i _ => N - (intOf i).toNat)
  case atStart => exact ⟨0, 0, Nat.zero_le _, Lib.hid rfl, rfl, Lib.hid ⟨RowQ.nil, RowQ.nil, .inl rfl⟩, Lib.hid (Below.refl _ _)⟩
  case round =>
    obtain ⟨k, m, hk, HM, rfl, HT, HBW⟩ := hrel
    have HLW : Hid (Below w.heap.size w wr) := Lib.hid (HB4.out.trans (HBW.out.mono (by have := HSZ.out; omega)))
    by_cases hlt : k < h
    · have x1 : (m : Int) < (N : Int) := by have h1 := HM.out; have h2 := HNN.out; omega
      have x0 : (0 : Int) ≤ (m : Int) := by omega
      obtain ⟨m1, hm1⟩ : ∃ m1, m + 1 = m1 := ⟨_, rfl⟩
      have x2 : (m : Int) + 1 = (m1 : Int) := by omega
      have x3 : (m1 : Int) < (N : Int) := by have h1 := HM.out; have h2 := HNN.out; omega
      have x4 : (0 : Int) ≤ (m1 : Int) := by omega
      have x5 : IntKind.i64.wrap ((m : Int) + 1) = (m1 : Int) := (IntWalk.i64_in _ (by omega)).trans x2
      have HM1 := Lib.hid hm1
      obtain ⟨gx, g1, A1, n1, c1, B1, m2, d1, z1, rfl, hz1, hA⟩ := HX0.out.atW (k := m) (by have h1 := HLN.out; omega)
      obtain ⟨gx2, g2, A2, n2, c2, B2, m3, d2, z2, e2, hz2, hB⟩ := HX0.out.atW (k := m1) (by have h1 := HLN.out; omega)
      injection e2 with e2
      injection e2 with e2
      subst e2
      have HZ1 : Hid (elQ xs (2 * k) = z1) := Lib.hid (by rw [← HM.out]; exact elQ_of hz1)
      have HZ2 : Hid (elQ xs (2 * k + 1) = z2) := Lib.hid (by rw [← HM.out, HM1.out]; exact elQ_of hz2)
      have HA := Lib.hid hA
      have HB := Lib.hid hB
      have CT1 : Hid (∀ w1, Below w.heap.size w w1 → Calls Try.prog 75 #[.agg #[.bool g1, .slice A1 n1 c1, .slice B1 m2 d1]] w1 (RetQ w1 z1 K)) := Lib.hid fun w1 hb => by
        have hk := HKK.out
        exact rt_Trim _ z1 K w1 (HA.out w1 hb).1.arg (by omega) (by omega)
      have CT2 : Hid (∀ w1, Below w.heap.size w w1 → Calls Try.prog 75 #[.agg #[.bool g2, .slice A2 n2 c2, .slice B2 m3 d2]] w1 (RetQ w1 z2 K)) := Lib.hid fun w1 hb => by
        have hk := HKK.out
        exact rt_Trim _ z2 K w1 (HB.out w1 hb).1.arg (by omega) (by omega)
      have hl1 : (evQ xs k).length ≤ 100000 := by rw [evQ_length]; have h1 := HNN.out; omega
      have hl2 : (odQ xs k).length ≤ 100000 := by rw [odQ_length]; have h1 := HNN.out; omega
      have hsz := HBW.out.size
      clear hA hB hz1 hz2 hm1
      go_upto_region 11 with (first
        | ((with_reducible show wpList _ _ _ (Oper.mk _ (.load 28 _) _ _ _ _ :: _) _ _); refine wpList_load_mid rfl 28 _ rfl (gx) (m * 3) rfl [.bool g1, .slice A1 n1 c1, .slice B1 m2 d1] dsR ((HA.out _ HLW.out).2) HRR.out.1 HRR.out.2 size_Rat ?_)
        | (go_at_call 75; (with_reducible refine (CT1.out _ HLW.out).mono ?_); rintro e5 w5 ⟨v5, rfl, hq, hb5⟩; have HQ5 := Lib.hid hq; obtain ⟨g5, A5, n5, c5, B5, m5, d5, rfl⟩ := hq.form; have HB5 := Lib.hid hb5; clear hq hb5)
        | (at_builtin; refine app_q _ rfl _ _ rfl w4.heap.size (HT.out.1.grow HB5.out) rfl rfl (HQ5.out.base (Nat.zero_le _)) hl1 (Nat.le_trans hsz HB5.out.size) ?_; intro v6 w6 hown6 hbel6 hob6 hgr6))
      have HT6 : Hid (TwoQ w4.heap.size w6 v6 _ (evQ xs k ++ [z1]) (odQ xs k) K) := Lib.hid ((HT.out.grow HB5.out).app hown6 hob6 hgr6)
      have HB6 : Hid (Below w4.heap.size w4 w6) := Lib.hid ((HBW.out.trans (HB5.out.mono hsz)).trans hbel6)
      have HL6 : Hid (Below w.heap.size w w6) := Lib.hid (HB4.out.trans (HB6.out.mono (by have := HSZ.out; omega)))
      have hsz6 := HB6.out.size
      clear hown6 hbel6 hob6 hgr6 hsz HQ5 HB5 CT1
      go_upto_region 9 with (first
        | ((with_reducible show wpList _ _ _ (Oper.mk _ (.load 28 _) _ _ _ _ :: _) _ _); refine wpList_load_mid rfl 28 _ rfl (gx) (m1 * 3) rfl [.bool g2, .slice A2 n2 c2, .slice B2 m3 d2] dsR ((HB.out _ HL6.out).2) HRR.out.1 HRR.out.2 size_Rat ?_)
        | (go_at_call 75; (with_reducible refine (CT2.out _ HL6.out).mono ?_); rintro e7 w7 ⟨v7, rfl, hq, hb7⟩; have HQ7 := Lib.hid hq; obtain ⟨g7, A7, n7, c7, B7, m7, d7, rfl⟩ := hq.form; have HB7 := Lib.hid hb7; clear hq hb7)
        | (at_builtin; refine app_q _ rfl _ _ rfl w4.heap.size (HT6.out.2.1.grow HB7.out) rfl rfl (HQ7.out.base (Nat.zero_le _)) hl2 (Nat.le_trans hsz6 HB7.out.size) ?_; intro v8 w8 hown8 hbel8 hob8 hgr8))
      have HT8 : Hid (TwoQ w4.heap.size w8 v6 v8 (evQ xs k ++ [z1]) (odQ xs k ++ [z2]) K) := Lib.hid ((HT6.out.swap.grow HB7.out).app hown8 hob8 hgr8).swap
      have HB8 : Hid (Below w4.heap.size w4 w8) := Lib.hid ((HB6.out.trans (HB7.out.mono hsz6)).trans hbel8)
      have HM8 : Hid (m + 2 = 2 * (k + 1)) := Lib.hid (by have := HM.out; omega)
      clear hown8 hbel8 hob8 hgr8 hsz6 HQ7 HB7 CT2 x2 x3 x4 x5
      go_wp2_with fail
      go_roundw
      case rel => exact ⟨k + 1, m + 2, by omega, HM8, by go_num, by rw [evQ_succ, odQ_succ, HZ1.out, HZ2.out]; exact HT8, HB8⟩
      case measure => simp [intOf]; omega
    · have x1 : ¬ (m : Int) < (N : Int) := by have h1 := HM.out; have h2 := HNN.out; omega
      obtain rfl : h = k := by omega
      obtain ⟨A1, c1, e1, -⟩ := HT.out.1.form
      obtain ⟨A2, c2, e2, -⟩ := HT.out.2.1.form
      rw [evQ_length] at e1
      rw [odQ_length] at e2
      subst e1 e2
      go_upto_region 12 with fail
      clear x1
      have HT0 : Hid (TwoQ w4.heap.size wr (.slice A1 h c1) (.slice A2 h c2) (exaF (ls.take 0) (evQ xs h, odQ xs h)).1 (exaF (ls.take 0) (evQ xs h, odQ xs h)).2 K) := HT
      have HB0 := HBW
      have hh : h ≤ 2048 := by have := HNN.out; omega
      clear HT HBW HLW hk hlt
      go_wp2_with fail
      obtain ⟨wo, rfl⟩ : ∃ wo : World, wo = wr := ⟨_, rfl⟩
      go_loopw [50] (fun i wr => ∃ (k M : Nat), k ≤ n ∧ i = .int .i64 k ∧ Hid (M + 5 ≤ 10 * 4 ^ k ∧ 2 ≤ M) ∧ Hid (TwoQ w4.heap.size wr (.slice A1 h c1) (.slice A2 h c2) (exaF (ls.take k) (evQ xs h, odQ xs h)).1 (exaF (ls.take k) (evQ xs h, odQ xs h)).2 M) ∧ Hid (Below w4.heap.size w4 wr)) (fun i _ => n - (intOf i).toNat)
      case atStart => exact ⟨0, K, Nat.zero_le _, rfl, Lib.hid (by have := HKK.out; omega), HT0, HB0⟩
      case round =>
        obtain ⟨k, M, hk, rfl, HMM, HT, HBW⟩ := hrel
        obtain ⟨p, hp⟩ : ∃ p, exaF (ls.take k) (evQ xs h, odQ xs h) = p := ⟨_, rfl⟩
        rw [hp] at HT
        have HPP := Lib.hid hp
        clear hp
        have HLW : Hid (Below w.heap.size w wr) := Lib.hid (HB4.out.trans (HBW.out.mono (by have := HSZ.out; omega)))
        by_cases hlt : k < n
        · obtain ⟨s, hs⟩ : ∃ s, ls[k]? = some s := ⟨_, List.getElem?_eq_getElem (by have := HNL.out; omega)⟩
          have hok := HLF.out.2 s (List.mem_of_getElem? hs)
          have hc3 := HC3.out s (List.mem_of_getElem? hs)
          have HIN : Hid (exaF (ls.take (k + 1)) (evQ xs h, odQ xs h) = lift1Q p s) := Lib.hid (by rw [exa_take hs, HPP.out])
          obtain ⟨ad, Cc, cc, rfl, hL⟩ := HL0.out.atW hs
          obtain ⟨o, st, cf, sh⟩ := s
          dsimp only at hL hc3
          obtain ⟨q, rfl⟩ : ∃ q : Nat, sh = q := ⟨sh.toNat, by have := hok.2.1; simp at this; omega⟩
          obtain ⟨m, hm⟩ : ∃ m, cf.length = m := ⟨_, rfl⟩
          rw [hm] at hL hc3
          have HC0 : Hid (Ints w Cc cf) := Lib.hid (hL w (Below.refl _ _)).2
          have HC : Hid (Ints wr Cc cf) := Lib.hid (hL wr HLW.out).2
          have HOK := Lib.hid (And.intro hok (And.intro hm hc3))
          have HMB : Hid (M ≤ 10240) := Lib.hid (by
            have h1 := HMM.out.1
            have h2 : 4 ^ k ≤ 4 ^ 5 := Nat.pow_le_pow_right (by decide) (by omega)
            omega)
          obtain ⟨⟨y0, y1, y2, y3⟩, -⟩ := hL wr HLW.out
          clear hs hok hm hc3 hL
          cases o with
          | true =>
            go_upto_region 16 with fail
            have hbA : Below wr.heap.size wr (wr.alloc (.cells #[.bool true, .int .i64 st, .slice Cc m cc, .int .i64 (q : Int)] 64)) := (Below.refl _ _).alloc (Nat.le_refl _) _
            have bxL : Box (wr.alloc (.cells #[.bool true, .int .i64 st, .slice Cc m cc, .int .i64 (q : Int)] 64)) wr.heap.size [.bool true, .int .i64 st, .slice Cc m cc, .int .i64 (q : Int)] := Box.new (by simp)
            generalize wr.alloc (.cells #[.bool true, .int .i64 st, .slice Cc m cc, .int .i64 (q : Int)] 64) = W6 at hbA bxL ⊢
            have HT6 := Lib.hid (HT.out.grow hbA)
            have HC6 := Lib.hid (HC.out.grow hbA)
            have z0 : W6.cell? ⟨wr.heap.size, 0, none⟩ = some (.bool true) := bxL.2.1 0
            have z1 : W6.cell? ⟨wr.heap.size, 1, none⟩ = some (.int .i64 st) := bxL.2.1 1
            have z2 : W6.cell? ⟨wr.heap.size, 2, none⟩ = some (.slice Cc m cc) := bxL.2.1 2
            have z3 : W6.cell? ⟨wr.heap.size, 3, none⟩ = some (.int .i64 (q : Int)) := bxL.2.1 3
            have CS : Hid (Calls Try.prog 76 #[.agg #[.bool true, .int .i64 st, .slice Cc m cc, .int .i64 (q : Int)], .slice A2 h c2, .slice A1 h c1] W6 fun e w' => e = .returned (.tuple #[]) ∧ RowQ w4.heap.size w' (.slice A2 h c2) (exqT (true, st, cf, (q : Int)) p.2 p.1) (4 * M + 14) ∧ W6.grownBy w' (Value.slice A2 h c2).ownBlock) := Lib.hid (by
              have hm := HMM.out
              have hmb := HMB.out
              exact bk_shift true st Cc A2 A1 cc m q h c2 c1 M _ _ cf p.2 p.1 W6 HOK.out.1 HOK.out.2.1 HOK.out.2.2 HC6.out HT6.out.2.1 HT6.out.1 (by omega) (by omega) (by omega) (by
                intro g e
                subst e
                refine ⟨fun ad e2 e3 => ?_, fun hne ad e2 e3 => ?_⟩
                · rcases HT6.out.2.2.swap with h1 | h1
                  · cases h1
                  · exact h1 (by rw [e2, ← e3]; rfl)
                · have h1 := (HT6.out.2.1.lt g rfl).1
                  have h2 := HC0.out.block hne e2
                  have h3 := HSZ.out
                  omega))
            clear y0 y1 y2 y3
            go_upto_region 18 with (go_at_call 76; (with_reducible refine CS.out.mono ?_); rintro e7 w7 ⟨rfl, hr7, hg7⟩)
            have HT7 : Hid (TwoQ w4.heap.size w7 (.slice A1 h c1) (.slice A2 h c2) p.1 (exqT (true, st, cf, (q : Int)) p.2 p.1) (4 * M + 14)) := Lib.hid (HT6.out.swap.step hr7 hg7 (by omega)).swap
            have HB7 : Hid (Below w4.heap.size w4 w7) := Lib.hid ((HBW.out.trans (hbA.mono HBW.out.size)).trans (below_own HT6.out.2.1 hg7 (Nat.le_trans HBW.out.size hbA.size)))
            have HP7 : Hid (exaF (ls.take (k + 1)) (evQ xs h, odQ xs h) = (p.1, (exqT (true, st, cf, (q : Int)) p.2 p.1))) := Lib.hid (by rw [HIN.out]; unfold lift1Q; rw [if_pos rfl])
            clear hr7 hg7 hbA bxL z0 z1 z2 z3 CS
            go_wp2_with fail
            go_roundw
            case rel => exact ⟨k + 1, 4 * M + 14, by omega, by go_num, Lib.hid (by have h1 := HMM.out; have h2 : 4 ^ (k + 1) = 4 ^ k * 4 := Nat.pow_succ ..; omega), by rw [HP7.out]; exact HT7, HB7⟩
            case measure => simp [intOf]; omega
          | false =>
            go_upto_region 17 with fail
            have hbA : Below wr.heap.size wr (wr.alloc (.cells #[.bool false, .int .i64 st, .slice Cc m cc, .int .i64 (q : Int)] 64)) := (Below.refl _ _).alloc (Nat.le_refl _) _
            have bxL : Box (wr.alloc (.cells #[.bool false, .int .i64 st, .slice Cc m cc, .int .i64 (q : Int)] 64)) wr.heap.size [.bool false, .int .i64 st, .slice Cc m cc, .int .i64 (q : Int)] := Box.new (by simp)
            generalize wr.alloc (.cells #[.bool false, .int .i64 st, .slice Cc m cc, .int .i64 (q : Int)] 64) = W6 at hbA bxL ⊢
            have HT6 := Lib.hid (HT.out.grow hbA)
            have HC6 := Lib.hid (HC.out.grow hbA)
            have z0 : W6.cell? ⟨wr.heap.size, 0, none⟩ = some (.bool false) := bxL.2.1 0
            have z1 : W6.cell? ⟨wr.heap.size, 1, none⟩ = some (.int .i64 st) := bxL.2.1 1
            have z2 : W6.cell? ⟨wr.heap.size, 2, none⟩ = some (.slice Cc m cc) := bxL.2.1 2
            have z3 : W6.cell? ⟨wr.heap.size, 3, none⟩ = some (.int .i64 (q : Int)) := bxL.2.1 3
            have CS : Hid (Calls Try.prog 76 #[.agg #[.bool false, .int .i64 st, .slice Cc m cc, .int .i64 (q : Int)], .slice A1 h c1, .slice A2 h c2] W6 fun e w' => e = .returned (.tuple #[]) ∧ RowQ w4.heap.size w' (.slice A1 h c1) (exqT (false, st, cf, (q : Int)) p.1 p.2) (4 * M + 14) ∧ W6.grownBy w' (Value.slice A1 h c1).ownBlock) := Lib.hid (by
              have hm := HMM.out
              have hmb := HMB.out
              exact bk_shift false st Cc A1 A2 cc m q h c1 c2 M _ _ cf p.1 p.2 W6 HOK.out.1 HOK.out.2.1 HOK.out.2.2 HC6.out HT6.out.1 HT6.out.2.1 (by omega) (by omega) (by omega) (by
                intro g e
                subst e
                refine ⟨fun ad e2 e3 => ?_, fun hne ad e2 e3 => ?_⟩
                · rcases HT6.out.2.2 with h1 | h1
                  · cases h1
                  · exact h1 (by rw [e2, ← e3]; rfl)
                · have h1 := (HT6.out.1.lt g rfl).1
                  have h2 := HC0.out.block hne e2
                  have h3 := HSZ.out
                  omega))
            clear y0 y1 y2 y3
            go_upto_region 18 with (go_at_call 76; (with_reducible refine CS.out.mono ?_); rintro e7 w7 ⟨rfl, hr7, hg7⟩)
            have HT7 : Hid (TwoQ w4.heap.size w7 (.slice A1 h c1) (.slice A2 h c2) (exqT (false, st, cf, (q : Int)) p.1 p.2) p.2 (4 * M + 14)) := Lib.hid (HT6.out.step hr7 hg7 (by omega))
            have HB7 : Hid (Below w4.heap.size w4 w7) := Lib.hid ((HBW.out.trans (hbA.mono HBW.out.size)).trans (below_own HT6.out.1 hg7 (Nat.le_trans HBW.out.size hbA.size)))
            have HP7 : Hid (exaF (ls.take (k + 1)) (evQ xs h, odQ xs h) = ((exqT (false, st, cf, (q : Int)) p.1 p.2), p.2)) := Lib.hid (by rw [HIN.out]; unfold lift1Q; rw [if_neg (show ¬ (false = true) by decide)])
            clear hr7 hg7 hbA bxL z0 z1 z2 z3 CS
            go_wp2_with fail
            go_roundw
            case rel => exact ⟨k + 1, 4 * M + 14, by omega, by go_num, Lib.hid (by have h1 := HMM.out; have h2 : 4 ^ (k + 1) = 4 ^ k * 4 := Nat.pow_succ ..; omega), by rw [HP7.out]; exact HT7, HB7⟩
            case measure => simp [intOf]; omega
        · obtain rfl : n = k := by omega
          have HFP : Hid (exactF ls xs h = p) := Lib.hid (by have h1 := HPP.out; rw [← HNL.out, List.take_length] at h1; exact h1)
          have HMB : Hid (M ≤ 10240) := Lib.hid (by
            have h1 := HMM.out.1
            have h2 : 4 ^ n ≤ 4 ^ 5 := Nat.pow_le_pow_right (by decide) (by omega)
            omega)
          have E0 := Lib.hid (HK0.out.keep (w' := wr) (by have := HSZ.out; exact (HBW.out)))
          have E1 := Lib.hid (HK1.out.keep (w' := wr) HBW.out)
          have c0 := E0.out.1
          have f0 := E0.out.2
          clear hlt hk
          go_wp2
          go_region
          first | go_end0 | go_wp2
          refine leaves_cons (f := 64) (args := #[.pointer (some ⟨w.heap.size + 1, 0, none⟩), .pointer (some ⟨w.heap.size, 0, none⟩)]) (by simp) (by simp [go_sem]) ?_
          refine (bk_report (w.heap.size + 1) w.heap.size 0 0 .returning _ ?_ ?_ ?_).mono ?_
          · show (wr.setCell _ _).cell? _ = _
            rw [World.cell?_setCell_other (h := by intro e; have := congrArg Addr.block e; simp at this)]; exact E1.out.1
          · exact (E0.out.set 0).1
          · exact (E0.out.set 0).2
          rintro e u' w'' ⟨rfl, rfl, rfl⟩
          have hs0 := HSZ.out
          have g1 : wr.grownBy (wr.setCell ⟨w.heap.size, 0, none⟩ (.int .i64 0)) (some w.heap.size) := grown_set (grown_refl _ _)
          have g2 : (wr.setCell ⟨w.heap.size, 0, none⟩ (.int .i64 0)).drew.grownBy ((wr.setCell ⟨w.heap.size, 0, none⟩ (.int .i64 0)).drew.setCell ⟨w.heap.size, 0, none⟩ (.int .i64 0)) (some w.heap.size) := grown_set (grown_refl _ _)
          have ty0 := HTY.out.grow HBW.out
          have ty1 := (ty0.set (g := w.heap.size) (o := 0) (.int .i64 0)).grow (Below.refl _ _).drew
          have tw1 := (HT.out.err g1 ty0 (by decide) (by omega)).grow (Below.refl _ _).drew
          have tw2 := tw1.err g2 ty1 (by decide) (by omega)
          refine ⟨.tuple #[.slice A1 h c1, .slice A2 h c2, .int .i64 0], ?_, ?_⟩
          · have hcc := ((E0.out.set 0).set 0).1
            simp [go_sem, results, Try.results29, hcc]
          · rw [HFP.out]
            have hmb := HMB.out
            refine ⟨_, _, rfl, (tw2.1.le (by omega)).base (by omega), (tw2.2.1.le (by omega)).base (by omega), ?_⟩
            exact ((HLW.out.setCell (Nat.le_refl _) _).drew).setCell (Nat.le_refl _) _
end Go.Proofs.Ytmdfgidejdiiiaa
end
section
namespace Go.Proofs.Ytmdfgidejdiiiaa
open Go.RowKit
def sumQ (x y : List Rat) : List Rat := (List.range x.length).map fun i => elQ x i + elQ y i
theorem sumQ_length (x y : List Rat) : (sumQ x y).length = x.length := by simp [sumQ]
theorem elQ_none {l : List Rat} {k : Nat} (h : l.length ≤ k) : elQ l k = 0 := by
  unfold elQ
  rw [List.getElem?_eq_none h]
  rfl
theorem elQ_map {n k : Nat} (f : Nat → Rat) (h : k < n) : elQ ((List.range n).map f) k = f k := by
  apply elQ_of
  simp [h]
theorem elQ_sum {x y : List Rat} (h : x.length = y.length) (i : Nat) : elQ (sumQ x y) i = elQ x i + elQ y i := by
  rcases Nat.lt_or_ge i x.length with hi | hi
  · exact elQ_map _ hi
  · rw [elQ_none (by rw [sumQ_length]; exact hi), elQ_none hi, elQ_none (by omega), Rat.add_zero]
theorem sumQ_ext {z x y : List Rat} (hz : z.length = x.length) (h : ∀ i, i < x.length → elQ z i = elQ x i + elQ y i) : z = sumQ x y := by
  apply List.ext_getElem?
  intro n
  rcases Nat.lt_or_ge n x.length with hn | hn
  · rw [get_elQ (by omega), get_elQ (by rw [sumQ_length]; exact hn), h n hn]
    unfold sumQ
    rw [elQ_map _ hn]
  · rw [List.getElem?_eq_none (by omega), List.getElem?_eq_none (by rw [sumQ_length]; exact hn)]
theorem exqS_sum {c : List Int} {st : Int} {x y : List Rat} {n : Nat} (h : x.length = y.length) : ∀ k, exqS c st (sumQ x y) n k = exqS c st x n k + exqS c st y n k
  | 0 => by
    unfold exqS
    exact (Rat.add_zero _).symm
  | k + 1 => by
    unfold exqS
    rw [exqS_sum h k, sumQ_length, elQ_sum h, Rat.mul_add, ← h]
    simp only [Rat.add_assoc, Rat.add_left_comm]
theorem exqE_sum {s : Lft} {t u x y : List Rat} {n : Nat} (h1 : t.length = u.length) (h : x.length = y.length) : exqE s (sumQ t u) (sumQ x y) n = exqE s t x n + exqE s u y n := by
  unfold exqE
  rw [exqS_sum h, elQ_sum h1, Rat.add_mul]
  simp only [Rat.add_assoc, Rat.add_left_comm]
theorem exqT_el {s : Lft} {t x : List Rat} {n : Nat} (h : n < t.length) : elQ (exqT s t x) n = exqE s t x n := by
  unfold exqT exqN
  rw [elQ_map _ h, if_pos h]
theorem exqT_sum {s : Lft} {t u x y : List Rat} (h1 : t.length = u.length) (h : x.length = y.length) : exqT s (sumQ t u) (sumQ x y) = sumQ (exqT s t x) (exqT s u y) := by
  apply sumQ_ext
  · rw [exqT_length, exqT_length, sumQ_length]
  · intro i hi
    rw [exqT_length] at hi
    rw [exqT_el (by rw [sumQ_length]; exact hi), exqT_el hi, exqT_el (by omega), exqE_sum h1 h]
theorem exaF_sum (ls : List Lft) : ∀ p q : List Rat × List Rat, p.1.length = q.1.length → p.2.length = q.2.length → exaF ls (sumQ p.1 q.1, sumQ p.2 q.2) = (sumQ (exaF ls p).1 (exaF ls q).1, sumQ (exaF ls p).2 (exaF ls q).2) := by
  induction ls with
  | nil => intro p q _ _; rfl
  | cons s ls ih =>
    intro p q h1 h2
    have hp := lift1Q_length p s
    have hq := lift1Q_length q s
    have e : lift1Q (sumQ p.1 q.1, sumQ p.2 q.2) s = (sumQ (lift1Q p s).1 (lift1Q q s).1, sumQ (lift1Q p s).2 (lift1Q q s).2) := by
      unfold lift1Q
      by_cases hs : s.1 = true
      · rw [if_pos hs, if_pos hs, if_pos hs, exqT_sum h2 h1]
      · rw [if_neg hs, if_neg hs, if_neg hs, exqT_sum h1 h2]
    show exaF ls (lift1Q (sumQ p.1 q.1, sumQ p.2 q.2) s) = _
    rw [e, ih (lift1Q p s) (lift1Q q s) (by omega) (by omega)]
    rfl
theorem evQ_sum {x y : List Rat} (h : Nat) (hl : x.length = y.length) : evQ (sumQ x y) h = sumQ (evQ x h) (evQ y h) := by
  apply sumQ_ext
  · rw [evQ_length, evQ_length]
  · intro i hi
    rw [evQ_length] at hi
    unfold evQ
    rw [elQ_map _ hi, elQ_map _ hi, elQ_map _ hi, elQ_sum hl]
theorem odQ_sum {x y : List Rat} (h : Nat) (hl : x.length = y.length) : odQ (sumQ x y) h = sumQ (odQ x h) (odQ y h) := by
  apply sumQ_ext
  · rw [odQ_length, odQ_length]
  · intro i hi
    rw [odQ_length] at hi
    unfold odQ
    rw [elQ_map _ hi, elQ_map _ hi, elQ_map _ hi, elQ_sum hl]
theorem exactF_sum (ls : List Lft) {x y : List Rat} (h : Nat) (hl : x.length = y.length) : exactF ls (sumQ x y) h = (sumQ (exactF ls x h).1 (exactF ls y h).1, sumQ (exactF ls x h).2 (exactF ls y h).2) := by
  unfold exactF
  rw [evQ_sum h hl, odQ_sum h hl]
  exact exaF_sum ls (evQ x h, odQ x h) (evQ y h, odQ y h) (by rw [evQ_length, evQ_length]) (by rw [odQ_length, odQ_length])
theorem exactF_length (ls : List Lft) (x : List Rat) (h : Nat) : (exactF ls x h).1.length = h ∧ (exactF ls x h).2.length = h := by
  have e := exa_length ls (evQ x h, odQ x h)
  rw [evQ_length, odQ_length] at e
  exact e
end Go.Proofs.Ytmdfgidejdiiiaa
end
section
namespace Go.Proofs.Ytmdfgidejdiiiaa
open Go.RowKit
theorem app_q2 {ops : Array Oper} {rest : List Oper} {o : Oper} {a : Act} {Q : Exit → Act → World → Prop} (W : World) (hgd : o.guard = none) (s x : Operand) (ho : o.op = .call { callee := .builtin .append, args := #[s, x], argTypes := #[53, 53] })
    (base g : Nat) {v : Value} {zs : List Rat} {z : Rat} {K : Nat} {g0 : Bool} {A0 B0 : Option Addr} {n0 c0 m0 d0 : Nat} (hown : RowQ base W v zs K) (hs : a.eval s = v) (hx : a.eval x = .slice (some ⟨g, 0, none⟩) 1 1) (hr : W.rangeAt g 0 [.bool g0, .slice A0 n0 c0, .slice B0 m0 d0]) (hq : RatQ 0 W (.agg #[.bool g0, .slice A0 n0 c0, .slice B0 m0 d0]) z K) (hn : zs.length ≤ 100000) (hbase : base ≤ W.heap.size)
    (h : ∀ v' w', RowQ base w' v' (zs ++ [z]) K → (v'.ownBlock = v.ownBlock ∨ v'.ownBlock = some W.heap.size) → W.grownBy w' v.ownBlock → wpList Try.prog ops Q rest (a.put o.dst v') w') :
    wpList Try.prog ops Q (o :: rest) a W := by
  obtain ⟨i0, hi, hz0, hz1, hz2⟩ := info_parts info_ratQ
  obtain ⟨us, hrow, hlen, hus⟩ := hown
  obtain ⟨v', w', hrun, hr', hg, _, hob⟩ := run_append_own_at (P := Try.prog) W base 53 o.type 28 i0 _ 3 56 Try.underlying53 hi hz0 hz1 hz2 rfl (by decide) v us.length _ hrow ⟨g, 0, none⟩ 1 1 [.bool g0, .slice A0 n0 c0, .slice B0 m0 d0] rfl
    (fun j u hu => by
      rw [add_cellsB]
      have := hr j u hu
      rwa [Nat.zero_add] at this)
    (fun u hu => by simp at hu; rcases hu with rfl | rfl | rfl <;> rfl) (by unfold maxLen; omega) (by omega) hbase
  refine wpList_plain hgd fun K hK => ?_
  unfold Oper.wp execOp
  simp only [ho, resolve, invoke, builtin, Sem.run_bind, Sem.run_pure, Result.andThen_ok, List.map_toArray, List.map_cons, List.map_nil, hs, hx, hrun]
  have hty : ∀ g, v.ownBlock = some g → TyB W g 28 := row_ty hrow
  refine hK _ _ (h v' w' ?_ hob hg)
  refine ⟨us ++ [.agg #[.bool g0, .slice A0 n0 c0, .slice B0 m0 d0]], by rw [List.length_append, List.flatMap_append]; exact hr', by rw [List.length_append, List.length_append, hlen]; rfl, fun i u y hu hy => ?_⟩
  rw [List.getElem?_append] at hu hy
  rw [hlen] at hu
  split at hu
  · rename_i hl
    rw [if_pos hl] at hy
    exact (hus i u y hu hy).row hg hty
  · rename_i hl
    rw [if_neg hl] at hy
    have hi0 : i - zs.length = 0 := by
      rcases Nat.lt_or_ge (i - zs.length) 1 with h | h
      · omega
      · rw [List.getElem?_eq_none (by simpa using h)] at hu; cases hu
    rw [hi0] at hu hy
    simp at hu hy
    subst hu hy
    exact hq.row hg hty
def LitQ (z : Rat) (K : Nat) (b : Nat) (w : World) (v : Value) : Prop := ∃ g g0 A0 n0 c0 B0 m0 d0, v = .slice (some ⟨g, 0, none⟩) 1 1 ∧ g < w.heap.size ∧ w.rangeAt g 0 [.bool g0, .slice A0 n0 c0, .slice B0 m0 d0] ∧ RatQ 0 w (.agg #[.bool g0, .slice A0 n0 c0, .slice B0 m0 d0]) z K
theorem LitQ_keep {z : Rat} {K : Nat} (b : Nat) (w w' : World) (v : Value) (h : LitQ z K b w v) (hb : Below w.heap.size w w') : LitQ z K b w' v := by
  obtain ⟨g, g0, A0, n0, c0, B0, m0, d0, e, hl, hr, hq⟩ := h
  exact ⟨g, g0, A0, n0, c0, B0, m0, d0, e, Nat.lt_of_lt_of_le hl hb.size, fun j v hv => (World.cell?_of_block (a := ⟨g, _, none⟩) (hb.block g hl)).trans (hr j v hv), hq.grow hb⟩
end Go.Proofs.Ytmdfgidejdiiiaa
end
section
namespace Go.Proofs.Ytmdfgidejdiiiaa
open Go.RowKit
theorem mr_permitted (m : Int) (w : World) : Calls Try.prog 78 #[.int .i64 m] w fun e w' => e = .returned (.bool (inB m 1 12)) ∧ w = w' := by
  go_enter Try.func78, Try.ntmps78
  go_wp2
  all_goals go_ret
  all_goals exact ⟨ret_bool (by rw [Bool.eq_iff_iff]; simp [inB]; omega), rfl⟩
end Go.Proofs.Ytmdfgidejdiiiaa
end
section
namespace Go.Proofs.Ytmdfgidejdiiiaa
open Go.RowKit
set_option maxHeartbeats 1000000 in
theorem mr_every (A : Option Addr) (x : List Int) (c fr m : Nat) (w : World) (hx : x.length ≤ 1000000) (h : Ints w A x) (hf : fr ≤ 1000000) (h1 : 1 ≤ m) (h2 : m ≤ 1000) :
    Calls Try.prog 79 #[.slice A x.length c, .int .i64 fr, .int .i64 m] w (RetInts1 w (everyF x fr m)) := by
  go_enter Try.func79, Try.ntmps79
  go_wp2
  go_loopw [7, 8] (fun v i wr => ∃ k p : Nat, k ≤ cnt x.length fr m ∧ i = .int .i64 p ∧ Hid (p = fr + k * m) ∧ p ≤ 3000000 ∧ Own w.heap.size wr v (everyN x fr m k) ∧ Below w.heap.size w wr) (fun _ i _ => 3000000 - (intOf i).toNat)
  case atStart => exact ⟨0, fr, Nat.zero_le _, rfl, by show fr = _; omega, by omega, Own.nil, Below.refl _ _⟩
  case round =>
    obtain ⟨k, p, hk, rfl, HP, hp, hown, hbw⟩ := hrel
    by_cases hlt : p < x.length
    · have hxw : Ints wr A x := h.grow hbw
      obtain ⟨ad, y, rfl, ba, hy, ca, i1, i2⟩ := hxw.at_ hlt
      have hkc : k < cnt x.length fr m := (cnt_iff h1).1 (by rw [← HP.out]; exact hlt)
      have HS := Lib.hid (everyN_succ (fr := fr) (m := m) (k := k) (by rw [← HP.out]; exact hy))
      have hlen' : (everyN x fr m k).length < 100000000 := by rw [everyN_length]; have := cnt_le x.length fr m h1; omega
      have hI : I64 y := ⟨i1, i2⟩
      have hsz := hbw.size
      have HP2 : Hid (p + m = fr + (k + 1) * m) := by have := HP.out; show _ = _; rw [Nat.add_mul]; omega
      clear hy hxw
      go_wp2_with (at_builtin; refine app_int wr rfl _ _ rfl w.heap.size hown rfl rfl hlen' hsz hI ?_; intro v1 w1 hown1 hbel1)
      go_roundw
      case rel => exact ⟨k + 1, p + m, by omega, by go_num, HP2, by omega, by rw [HS.out]; exact hown1, hbw.trans hbel1⟩
      case measure => simp [intOf]; omega
    · have hkc : k = cnt x.length fr m := by
        have hn : ¬ k < cnt x.length fr m := fun hc => hlt (by rw [HP.out]; exact (cnt_iff (n := x.length) (fr := fr) (k := k) h1).2 hc)
        omega
      go_wp2
      go_ret
      subst hkc
      exact RetInts1.mk hown hbw
end Go.Proofs.Ytmdfgidejdiiiaa
end
section
namespace Go.Proofs.Ytmdfgidejdiiiaa
open Go.RowKit
set_option maxHeartbeats 1000000 in
theorem mr_Phases (A : Option Addr) (x : List Int) (c : Nat) (M : Int) (w : World) (hx : x.length ≤ 9223372036854775807) (h : Ints w A x) :
    Calls Try.prog 31 #[.slice A x.length c, .int .i64 M] w (RetIntsL w (phV x M) (downE x.length M)) := by
  rcases Bool.eq_false_or_eq_true (inB M 1 12) with hp | hp
  · obtain ⟨l1, l2⟩ := inB_iff.1 hp
    obtain ⟨m, rfl⟩ := Int.eq_ofNat_of_zero_le (by omega : 0 ≤ M)
    by_cases hlong : 4096 < x.length
    · have hE : downE x.length m = 4 := by unfold downE; rw [hp, if_pos rfl, if_pos hlong]
      have hV : phV x m = [] := phV_no (by rw [hE]; decide)
      rw [hE, hV]
      clear hE hV
      go_enter Try.func31, Try.ntmps31
      go_wp2_with (go_at_call 78; refine (mr_permitted _ _).mono ?_; rintro e w' ⟨rfl, rfl⟩)
      go_ret2
      exact RetIntsL.mk rfl IntsL.nil (Below.refl _ _)
    · have hE : downE x.length m = 0 := by unfold downE; rw [hp, if_pos rfl, if_neg hlong]
      have hV : phV x m = phF x m := phV_of hE
      rw [hE, hV]
      clear hE hV
      have hn1 : m ≤ 100000000 := by omega
      go_enter Try.func31, Try.ntmps31
      go_wp2_with (first
        | (go_at_call 78; refine (mr_permitted _ _).mono ?_; rintro e w' ⟨rfl, rfl⟩)
        | (at_make; refine mk_intL rfl _ _ rfl m rfl rfl rfl hn1 ?_; intro w1 hown1 hb1))
      all_goals try (exfalso; omega)
      have hown0 : OwnL w.heap.size w1 w.heap.size m (phN x m 0) := by rw [phN_zero]; exact hown1
      clear hown1
      go_loopw [18] (fun i wr => ∃ k : Nat, k ≤ m ∧ i = .int .i64 k ∧ OwnL w.heap.size wr w.heap.size m (phN x m k) ∧ Below w.heap.size w wr) (fun i _ => m - (intOf i).toNat)
      case atStart => exact ⟨0, Nat.zero_le _, rfl, hown0, hb1⟩
      case round =>
        obtain ⟨k, hk, rfl, hown, hbw⟩ := hrel
        by_cases hlt : k < m
        · have hxw : Ints wr A x := h.grow hbw
          have HS := Lib.hid (phN_succ (x := x) hlt)
          have HA := Lib.hid (phN_at (x := x) hlt)
          have hm1 : 1 ≤ m := by omega
          have hgw := hown.block
          go_wp2_with (go_at_call 79; refine (mr_every A x c k m _ (by omega) hxw (by omega) hm1 (by omega)).mono ?_; rintro e w2 ⟨v, rfl, ho2, hb2⟩; obtain ⟨B2, c2, rfl, _, _⟩ := ho2.form; have hown2 := hown.grow hb2; obtain ⟨B, cc, hcell, _⟩ := hown2.cell HA.out; have hfree := hown2.free k)
          go_roundw
          case rel => exact ⟨k + 1, by omega, by go_num, by rw [HS.out]; exact hown2.set k (ho2.base (by omega)), (hbw.trans (hb2.mono (by omega))).setCell (Nat.le_refl _) _⟩
          case measure => simp [intOf]; omega
        · go_wp2
          go_ret2
          obtain rfl : k = m := by omega
          exact RetIntsL.mk (by rw [phF, phN_length]) hown.ints hbw
  · have hE : downE x.length M = 20 := by unfold downE; rw [hp, if_neg (by decide)]
    have hV : phV x M = [] := phV_no (by rw [hE]; decide)
    rw [hE, hV]
    clear hE hV
    go_enter Try.func31, Try.ntmps31
    go_wp2_with (go_at_call 78; refine (mr_permitted _ _).mono ?_; rintro e w' ⟨rfl, rfl⟩)
    go_ret2
    exact RetIntsL.mk rfl IntsL.nil (Below.refl _ _)
end Go.Proofs.Ytmdfgidejdiiiaa
end
