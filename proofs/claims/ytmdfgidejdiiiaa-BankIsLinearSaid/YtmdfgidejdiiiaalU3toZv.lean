/- Several texts in one: U3 U5 Zt Zu Zv. -/
import Derived.Test.YtmdfgidejdiiiaalV9toU
import Derived.Deep.MidRow
import Derived.Test.YtmdfgidejdiiiaalZstoV4
set_option linter.unusedVariables false
set_option linter.unusedSimpArgs false
section
namespace Go.Proofs.Ytmdfgidejdiiiaa
open Go.RowKit
theorem Box.range {w : World} {g o : Nat} {vs cs : List Value} (h : Box w g vs) (e : ∀ j v, cs[j]? = some v → vs[o + j]? = some v) : w.rangeAt g o cs := fun j v hv => (h.2.1 (o + j)).trans (e j v hv)
theorem Box.there {w : World} {g o n : Nat} {vs : List Value} (h : Box w g vs) (hn : o + n ≤ vs.length) : w.there g o n := fun j hj => ⟨by rw [h.2.1, List.getElem?_eq_getElem (by omega)]; rfl, h.2.2 _⟩
theorem Box.sets {g : Nat} : ∀ (l : List Value) (k : Nat) (w : World) (vs : List Value), Box w g vs → k + l.length ≤ vs.length → Box (w.setCells g k l) g (vs.take k ++ l ++ vs.drop (k + l.length))
  | [], k, w, vs, h, _ => by
    show Box w g _
    rw [List.append_nil, List.length_nil, Nat.add_zero, List.take_append_drop]; exact h
  | v :: l, k, w, vs, h, hk => by
    have hk' : k < vs.length := by simp at hk; omega
    have h1 := h.set (k := k) (u := v) hk'
    have h2 := Box.sets l (k + 1) _ _ h1 (by simp at hk ⊢; omega)
    have e : (vs.set k v).take (k + 1) ++ l ++ (vs.set k v).drop (k + 1 + l.length) = vs.take k ++ (v :: l) ++ vs.drop (k + (v :: l).length) := by
      rw [List.drop_set_of_lt (by omega), List.length_cons, show k + (l.length + 1) = k + 1 + l.length by omega, List.take_add_one, List.getElem?_set_self hk', List.take_set_of_le (Nat.le_refl _)]
      simp
    rw [← e]; exact h2
theorem sets_grown {a : World} {g : Nat} : ∀ (l : List Value) (k : Nat) (w : World), a.grownBy w (some g) → a.grownBy (w.setCells g k l) (some g)
  | [], _, _, h => h
  | v :: l, k, w, h => sets_grown l (k + 1) _ (grown_set h)
theorem wp_ld {ops : Array Oper} {rest : List Oper} {o : Oper} {a : Act} {Q : Exit → Act → World → Prop} {w : World} (hgd : o.guard = none) (ty : TypeId) (x : Operand) (ho : o.op = .load ty x) (g k : Nat) (hx : a.eval x = .pointer (some ⟨g, k, none⟩)) {vs : List Value} (hb : Box w g vs) (cs : List Value)
    (e : ∀ j v, cs[j]? = some v → vs[k + j]? = some v) (d : TypeDesc) (hu : Try.prog.underlying ty = some d) (hd : d.isRow = true) (hi : (Try.prog.info? ty).map (·.size) = some cs.length)
    (h : wpList Try.prog ops Q rest (a.put o.dst (.agg cs.toArray)) w) : wpList Try.prog ops Q (o :: rest) a w :=
  wpList_load_mid hgd ty x ho g k hx cs d (hb.range e) hu hd hi h
theorem wp_st {ops : Array Oper} {rest : List Oper} {o : Oper} {a : Act} {Q : Exit → Act → World → Prop} {w : World} (hgd : o.guard = none) (ty : TypeId) (x y : Operand) (ho : o.op = .store ty x y) (g k : Nat) (cs : List Value) (hx : a.eval x = .pointer (some ⟨g, k, none⟩)) (hy : a.eval y = .agg cs.toArray)
    (hi : (Try.prog.info? ty).map (·.size) = some cs.length) (h1 : cs.all (·.oneCell') = true) {vs vs' : List Value} (hb : Box w g vs) (hk : k + cs.length ≤ vs.length) (e : vs.take k ++ cs ++ vs.drop (k + cs.length) = vs')
    (h : ∀ W1, Box W1 g vs' → w.grownBy W1 (some g) → wpList Try.prog ops Q rest (a.put o.dst undef) W1) : wpList Try.prog ops Q (o :: rest) a w := by
  refine wpList_store_mid hgd ty x y ho g k cs.toArray hx hy (by simpa using hb.there hk) (by simpa using hi) (all_oneCell_toArray (fun v hv => List.all_eq_true.1 h1 v hv)) ?_
  have e2 : cs.toArray.toList = cs := by simp
  rw [e2]
  refine h _ ?_ (sets_grown _ _ _ (grown_refl w (some g)))
  rw [← e]
  exact Box.sets _ _ _ _ hb hk
theorem box_one {w : World} {g k : Nat} {vs vs' : List Value} {v : Value} (hb : Box w g vs) (hk : k < vs.length) (e : vs.set k v = vs') : Box (w.setCell ⟨g, k, none⟩ v) g vs' ∧ w.grownBy (w.setCell ⟨g, k, none⟩ v) (some g) := by
  subst e
  exact ⟨hb.set hk, grown_set (grown_refl w (some g))⟩
theorem put_facts {w w1 W : World} {g : Nat} (h : Below w.heap.size w w1) (hg : w.heap.size ≤ g) (h1 : w1.grownBy W (some g)) : Below w.heap.size w W := h.grown h1 h.size (fun k e => by injection e with e; omega)
theorem Box.c3 {w : World} {g : Nat} {a b c : Value} (h : Box w g [a, b, c]) : w.cell? ⟨g, 0, none⟩ = some a ∧ w.cell? ⟨g, 1, none⟩ = some b ∧ w.cell? ⟨g, 2, none⟩ = some c := ⟨h.2.1 0, h.2.1 1, h.2.1 2⟩
end Go.Proofs.Ytmdfgidejdiiiaa
end
section
namespace Go.Proofs.Ytmdfgidejdiiiaa
open Go.RowKit
theorem resC {fn : Func} {t : Tmp} {T : TypeId} (h : fn.results = #[.cell t T]) (tmps : Array Value) (P : Program) (w : World) {g : Nat} {v : Value} (hp : tmps.getD t undef = .pointer (some ⟨g, 0, none⟩)) (hv : (loadVar T ⟨g, 0, none⟩).run P w = .ok v w) : (results fn tmps).run P w = .ok v w := by
  have hp' : tmps[t]?.getD undef = .pointer (some ⟨g, 0, none⟩) := by rw [← Array.getD_eq_getD_getElem?]; exact hp
  simp [results, h, hp', hv, asAddr]
theorem res_box {w : World} {g : Nat} {cs : List Value} (ty : TypeId) (hb : Box w g cs) (d : TypeDesc) (hu : Try.prog.underlying ty = some d) (hd : d.isRow = true) (hi : (Try.prog.info? ty).map (·.size) = some cs.length) : (loadVar ty ⟨g, 0, none⟩).run Try.prog w = .ok (.agg cs.toArray) w :=
  run_loadVar_mid w g 0 _ cs d (hb.range (fun j v h => by rw [Nat.zero_add]; exact h)) hu hd hi
end Go.Proofs.Ytmdfgidejdiiiaa
end
section
namespace Go.Proofs.Ytmdfgidejdiiiaa
open Go.RowKit
theorem size_Int : (Try.prog.info? 26).map (·.size) = some 2 := by kernel_rfl
theorem row_Int : ∃ d, Try.prog.underlying 26 = some d ∧ d.isRow = true := ⟨_, Try.underlying26, rfl⟩
def sgn (b : Bool) (x : Int) : Int := if b then -x else x
def RetV (w : World) (v : Value) (e : Ending) (w' : World) : Prop := e = .returned v ∧ Below w.heap.size w w'
theorem it_signed (neg : Bool) (A : Option Addr) (n c : Nat) (w : World) : Calls Try.prog 114 #[.bool neg, .slice A n c] w (RetV w (.agg #[.bool (neg && decide (0 < n)), .slice A n c])) := by
  obtain ⟨dsc, hd1, hd2⟩ := row_Int
  have hb : Below w.heap.size w (w.alloc (.cells #[.bool (neg && decide (0 < n)), .slice A n c] 26)) := (Below.refl _ _).alloc (Nat.le_refl _) _
  have hx := res_box 26 (Box.new (w := w) (vs := #[.bool (neg && decide (0 < n)), .slice A n c]) (t := 26) rfl) dsc hd1 hd2 size_Int
  have HX := Lib.hid (And.intro hb hx)
  clear hb hx hd1 hd2
  cases neg with
  | false =>
    rw [Bool.false_and] at HX ⊢
    go_enter Try.func114, Try.ntmps114
    go_wp2_with fail
    refine bodyPost_ret (resC rfl _ _ _ (g := w.heap.size) rfl HX.out.2) rfl ?_
    exact ⟨rfl, HX.out.1⟩
  | true =>
    rw [Bool.true_and] at HX ⊢
    by_cases h : 0 < n
    · rw [decide_eq_true h] at HX ⊢
      have h1 : (0 : Int) < (n : Int) := by omega
      go_enter Try.func114, Try.ntmps114
      go_wp2_with fail
      refine bodyPost_ret (resC rfl _ _ _ (g := w.heap.size) rfl HX.out.2) rfl ?_
      exact ⟨rfl, HX.out.1⟩
    · rw [decide_eq_false h] at HX ⊢
      obtain rfl : n = 0 := by omega
      go_enter Try.func114, Try.ntmps114
      go_wp2_with fail
      refine bodyPost_ret (resC rfl _ _ _ (g := w.heap.size) rfl HX.out.2) rfl ?_
      exact ⟨rfl, HX.out.1⟩
inductive Dsn where
  | v (u : Value)
  | num (x : Int) (K : Nat)
  | int (z : Int) (K : Nat)
def NumO (b : Nat) (w : World) (v : Value) (x : Int) (K : Nat) : Prop := ∃ A c l, v = .slice A l.length c ∧ OwG b w (.slice A l.length c) l ∧ nv l = x ∧ Nrm l ∧ l.length ≤ K
def IntO (b : Nat) (w : World) (v : Value) (z : Int) (K : Nat) : Prop := ∃ neg A c l, v = .agg #[.bool neg, .slice A l.length c] ∧ OwG b w (.slice A l.length c) l ∧ Nrm l ∧ l.length ≤ K ∧ sgn neg (nv l) = z
theorem NumO.grow {b : Nat} {w w' : World} {v : Value} {x : Int} {K : Nat} (h : NumO b w v x K) (hb : Below w.heap.size w w') : NumO b w' v x K := by
  obtain ⟨A, c, l, e, o, r⟩ := h; exact ⟨A, c, l, e, o.grow hb, r⟩
theorem IntO.grow {b : Nat} {w w' : World} {v : Value} {x : Int} {K : Nat} (h : IntO b w v x K) (hb : Below w.heap.size w w') : IntO b w' v x K := by
  obtain ⟨n, A, c, l, e, o, r⟩ := h; exact ⟨n, A, c, l, e, o.grow hb, r⟩
theorem RetN.num {w w' : World} {x : Int} {K b : Nat} {e : Ending} (h : RetN w x K e w') (hb : b ≤ w.heap.size) : ∃ v, e = .returned v ∧ NumO b w' v x K ∧ Below w.heap.size w w' := by
  obtain ⟨v, l, h1, h2, h3, h4, h5, h6⟩ := h
  obtain ⟨A, c, rfl, _, _⟩ := h2.form
  exact ⟨_, h1, ⟨A, c, l, rfl, h2.base hb, h3, h4, h5⟩, h6⟩
def dN (b : Nat) (ds : List Dsn) (i : Nat) (v : Value) (w : World) : Prop :=
  match ds[i]? with
  | some (.v u) => v = u
  | some (.num x K) => NumO b w v x K
  | some (.int z K) => IntO b w v z K
  | none => True
theorem dN_keep {b : Nat} {ds : List Dsn} {w w' : World} (h : Below w.heap.size w w') (i : Nat) (v : Value) (hf : dN b ds i v w) : dN b ds i v w' := by
  unfold dN at hf ⊢
  split at hf
  · exact hf
  · exact hf.grow h
  · exact hf.grow h
  · trivial
theorem sgn_len {neg : Bool} {l : List Int} (n : Nrm l) (hd : Dig l) : sgn (neg && decide (0 < l.length)) (nv l) = sgn neg (nv l) := by
  cases neg with
  | false => rfl
  | true =>
    by_cases h : 0 < l.length
    · rw [decide_eq_true h]; rfl
    · have : l = [] := List.length_eq_zero_iff.1 (by omega)
      subst this; rfl
def RetI (w : World) (z : Int) (K : Nat) (e : Ending) (w' : World) : Prop := ∃ v, e = .returned v ∧ IntO w.heap.size w' v z K ∧ Below w.heap.size w w'
set_option maxRecDepth 100000 in
set_option maxHeartbeats 4000000 in
theorem it_Trim (neg : Bool) (A : Option Addr) (n c : Nat) (l : List Int) (w : World) (h : DigA w A l) (hn : l.length = n) (hc : n ≤ c) (h9 : n ≤ 1000000) : Calls Try.prog 117 #[.agg #[.bool neg, .slice A n c]] w (RetI w (sgn neg (nv l)) n) := by
  have CT : Hid (∀ w1, Below w.heap.size w w1 → Calls Try.prog 120 #[.slice A n c] w1 (RetN w1 (nv l) n)) := Lib.hid fun w1 hb => nt_Trim A n c l w1 (h.grow hb) hn hc (by omega)
  obtain ⟨x, hx⟩ : ∃ x, nv l = x := ⟨_, rfl⟩
  rw [hx] at CT ⊢
  clear hx h hn
  go_enter Try.func117, Try.ntmps117
  go_upto_region 1 with fail
  have hB : Below w.heap.size w ((w.alloc (.cells #[.bool neg, .slice A n c] 26)).alloc (.cells #[.bool false, .slice none 0 0] 26)) := ((Below.refl _ _).alloc (Nat.le_refl _) _).alloc (by simp) _
  have b1 : Box ((w.alloc (.cells #[.bool neg, .slice A n c] 26)).alloc (.cells #[.bool false, .slice none 0 0] 26)) w.heap.size [.bool neg, .slice A n c] := (Box.new rfl).alloc _
  have b2 : Box ((w.alloc (.cells #[.bool neg, .slice A n c] 26)).alloc (.cells #[.bool false, .slice none 0 0] 26)) (w.heap.size + 1) [.bool false, .slice none 0 0] := Box.new (by simp)
  generalize (w.alloc (.cells #[.bool neg, .slice A n c] 26)).alloc (.cells #[.bool false, .slice none 0 0] 26) = wA at hB b1 b2 ⊢
  have HA := Lib.hid (And.intro hB (And.intro b1 b2))
  clear hB b1 b2
  refine wp_region_grow2 (fun i => Nat.blt i 6) (fun _ => false) (fun w9 => Below wA.heap.size wA w9) (fun a b => Below a.heap.size a b) (dN wA.heap.size [.v (.pointer (some ⟨w.heap.size, 0, none⟩)), .v (.bool neg), .v (.pointer (some ⟨w.heap.size, 1, none⟩)), .v (.slice A n c), .num x n, .int (sgn neg x) n]) (by kernel_rfl) (by kernel_rfl) (Below.refl _ _).drew (fun a b h1 h2 => ⟨below_then h1 h2, fun i _ v => dN_keep h2 i v⟩) (fun _ _ => Below.refl _ _) ?_ (fun _ _ _ _ h => by cases h) ?_
  · refine ⟨?_, ?_, ?_, ?_, ?_, ?_, trivial⟩
    all_goals
      intro vs w9 hp hF
      have HP := Lib.hid hp
      have z1 : w9.cell? ⟨w.heap.size, 0, none⟩ = some (.bool neg) := ((HA.out.2.1.keep hp).2.1 0)
      have z2 : w9.cell? ⟨w.heap.size, 1, none⟩ = some (.slice A n c) := ((HA.out.2.1.keep hp).2.1 1)
      clear hp
      simp [depsB, Region.binds, dN] at hF
      simp [stL, depsB, Region.binds, Act.put, hF]
    · (go_wp2_with fail; exact ⟨rfl, Below.refl _ _⟩)
    · (go_wp2_with fail; exact ⟨rfl, Below.refl _ _⟩)
    · (go_wp2_with fail; exact ⟨rfl, Below.refl _ _⟩)
    · (go_wp2_with fail; exact ⟨rfl, Below.refl _ _⟩)
    · go_wp2_with (go_at_call 120; (with_reducible refine (CT.out _ (below_then HA.out.1 HP.out)).mono ?_); intro e1 w1' h1; obtain ⟨v1, rfl, o1, hb1⟩ := h1.num (b := wA.heap.size) HP.out.size)
      exact o1
    · obtain ⟨h1, A', c', l', e4, o4, n4, m4, k4⟩ := hF
      simp only [e4]
      go_wp2_with (go_at_call 114; (with_reducible refine (it_signed _ _ _ _ _).mono ?_); rintro e1 w1' ⟨rfl, hb1⟩)
      exact ⟨_, A', c', l', rfl, o4.grow hb1, m4, k4, by rw [sgn_len m4 o4.dig, n4]⟩
  intro vs w9 hp hF
  obtain ⟨neg', A', c', l', e5, o5⟩ : IntO wA.heap.size w9 (vs 5) (sgn neg x) n := hF 5 (by decide) rfl
  have b9 := HA.out.2.2.keep hp
  have hb9 := below_then HA.out.1 hp
  clear hF
  show wpList Try.prog _ _ [_] _ _
  simp [stL, Act.put, e5]
  refine wp_st rfl 26 _ _ rfl (w.heap.size + 1) 0 [.bool neg', .slice A' l'.length c'] rfl rfl size_Int rfl b9 (Nat.le_refl _) rfl ?_
  intro W9 c9 g9
  have hW := put_facts (g := w.heap.size + 1) hb9 (by omega) g9
  have HO := Lib.hid ((o5.1.away g9 HA.out.2.2.1).base (base' := w.heap.size) HA.out.1.size)
  have HC := Lib.hid (And.intro c9 (And.intro hW o5.2))
  clear c9 g9 hW o5 e5 b9 hb9 hp
  go_wp2_with fail
  obtain ⟨dsc, hd1, hd2⟩ := row_Int
  refine bodyPost_ret (resC rfl _ _ W9 (g := w.heap.size + 1) rfl (res_box 26 HC.out.1 dsc hd1 hd2 size_Int)) rfl ?_
  exact ⟨_, rfl, ⟨neg', A', c', l', rfl, HO.out, HC.out.2.2⟩, HC.out.2.1⟩
end Go.Proofs.Ytmdfgidejdiiiaa
end
section
namespace Go.Proofs.Ytmdfgidejdiiiaa
open Go.RowKit
theorem sgn_mul (a b : Bool) (x y : Int) : sgn (a != b) (x * y) = sgn a x * sgn b y := by
  cases a <;> cases b <;> simp [sgn, Int.neg_mul, Int.mul_neg]
set_option maxRecDepth 100000 in
set_option maxHeartbeats 4000000 in
theorem it_Mul (na nb : Bool) (A B : Option Addr) (n m c d : Nat) (a b : List Int) (w : World) (ha : DigA w A a) (hb : DigA w B b) (hn : a.length = n) (hm : b.length = m) (hc : n ≤ c) (hd : m ≤ d) (h9 : n ≤ 1000000) (h8 : m ≤ 1000000) :
    Calls Try.prog 87 #[.agg #[.bool na, .slice A n c], .agg #[.bool nb, .slice B m d]] w (RetI w (sgn na (nv a) * sgn nb (nv b)) (n + m)) := by
  have CM : Hid (∀ w1, Below w.heap.size w w1 → Calls Try.prog 89 #[.slice A n c, .slice B m d] w1 (RetN w1 (nv a * nv b) (n + m))) := Lib.hid fun w1 h => nt_Mul A B n m c d a b w1 (ha.grow h) (hb.grow h) hn hm hc hd (by omega) (by omega)
  obtain ⟨x, hx⟩ : ∃ x, nv a = x := ⟨_, rfl⟩
  obtain ⟨y, hy⟩ : ∃ x, nv b = x := ⟨_, rfl⟩
  rw [hx, hy] at CM ⊢
  rw [← sgn_mul]
  clear hx hy ha hb hn hm hc hd
  obtain ⟨K, hK⟩ : ∃ K, n + m = K := ⟨_, rfl⟩
  rw [hK] at CM ⊢
  clear hK
  obtain ⟨X, hX⟩ : ∃ X, x * y = X := ⟨_, rfl⟩
  rw [hX] at CM ⊢
  clear hX
  obtain ⟨ng, hng⟩ : ∃ t, (na != nb) = t := ⟨_, rfl⟩
  rw [hng]
  go_enter Try.func87, Try.ntmps87
  go_upto_region 1 with fail
  have hB : Below w.heap.size w (((w.alloc (.cells #[.bool na, .slice A n c] 26)).alloc (.cells #[.bool nb, .slice B m d] 26)).alloc (.cells #[.bool false, .slice none 0 0] 26)) := (((Below.refl _ _).alloc (Nat.le_refl _) _).alloc (by simp) _).alloc (by simp; omega) _
  have b1 : Box (((w.alloc (.cells #[.bool na, .slice A n c] 26)).alloc (.cells #[.bool nb, .slice B m d] 26)).alloc (.cells #[.bool false, .slice none 0 0] 26)) w.heap.size [.bool na, .slice A n c] := ((Box.new rfl).alloc _).alloc _
  have b2 : Box (((w.alloc (.cells #[.bool na, .slice A n c] 26)).alloc (.cells #[.bool nb, .slice B m d] 26)).alloc (.cells #[.bool false, .slice none 0 0] 26)) (w.heap.size + 1) [.bool nb, .slice B m d] := (Box.new (by simp)).alloc _
  have b3 : Box (((w.alloc (.cells #[.bool na, .slice A n c] 26)).alloc (.cells #[.bool nb, .slice B m d] 26)).alloc (.cells #[.bool false, .slice none 0 0] 26)) (w.heap.size + 1 + 1) [.bool false, .slice none 0 0] := Box.new (by simp)
  generalize ((w.alloc (.cells #[.bool na, .slice A n c] 26)).alloc (.cells #[.bool nb, .slice B m d] 26)).alloc (.cells #[.bool false, .slice none 0 0] 26) = wA at hB b1 b2 b3 ⊢
  have HA := Lib.hid (And.intro hB (And.intro b1 (And.intro b2 b3)))
  have HNG := Lib.hid hng
  clear hB b1 b2 b3 hng
  refine wp_region_grow2 (fun i => Nat.blt i 11) (fun _ => false) (fun w9 => Below wA.heap.size wA w9) (fun a b => Below a.heap.size a b) (dN wA.heap.size [.v (.pointer (some ⟨w.heap.size, 0, none⟩)), .v (.bool na), .v (.pointer (some ⟨w.heap.size + 1, 0, none⟩)), .v (.bool nb), .v (.bool ng), .v (.pointer (some ⟨w.heap.size, 1, none⟩)), .v (.slice A n c), .v (.pointer (some ⟨w.heap.size + 1, 1, none⟩)), .v (.slice B m d), .num X K, .int (sgn ng X) K]) (by kernel_rfl) (by kernel_rfl) (Below.refl _ _).drew (fun a b h1 h2 => ⟨below_then h1 h2, fun i _ v => dN_keep h2 i v⟩) (fun _ _ => Below.refl _ _) ?_ (fun _ _ _ _ h => by cases h) ?_
  · refine ⟨?_, ?_, ?_, ?_, ?_, ?_, ?_, ?_, ?_, ?_, ?_, trivial⟩
    all_goals
      intro vs w9 hp hF
      have HP := Lib.hid hp
      obtain ⟨z1, z2⟩ := (HA.out.2.1.keep hp).c2
      obtain ⟨z3, z4⟩ := (HA.out.2.2.1.keep hp).c2
      clear hp
      simp [depsB, Region.binds, dN] at hF
      simp [stL, depsB, Region.binds, Act.put, hF]
    · (go_wp2_with fail; exact ⟨rfl, Below.refl _ _⟩)
    · (go_wp2_with fail; exact ⟨rfl, Below.refl _ _⟩)
    · (go_wp2_with fail; exact ⟨rfl, Below.refl _ _⟩)
    · (go_wp2_with fail; exact ⟨rfl, Below.refl _ _⟩)
    · (go_wp2_with fail; exact ⟨by show Value.bool _ = Value.bool _; rw [← HNG.out]; try rfl, Below.refl _ _⟩)
    · (go_wp2_with fail; exact ⟨rfl, Below.refl _ _⟩)
    · (go_wp2_with fail; exact ⟨rfl, Below.refl _ _⟩)
    · (go_wp2_with fail; exact ⟨rfl, Below.refl _ _⟩)
    · (go_wp2_with fail; exact ⟨rfl, Below.refl _ _⟩)
    · go_wp2_with (go_at_call 89; (with_reducible refine (CM.out _ (below_then HA.out.1 HP.out)).mono ?_); intro e1 w1' h1; obtain ⟨v1, rfl, o1, hb1⟩ := h1.num (b := wA.heap.size) HP.out.size)
      exact o1
    · obtain ⟨h1, A', c', l', e4, o4, n4, m4, k4⟩ := hF
      simp only [e4]
      go_wp2_with (go_at_call 114; (with_reducible refine (it_signed _ _ _ _ _).mono ?_); rintro e1 w1' ⟨rfl, hb1⟩)
      exact ⟨_, A', c', l', rfl, o4.grow hb1, m4, k4, by rw [sgn_len m4 o4.dig, n4]⟩
  intro vs w9 hp hF
  obtain ⟨neg', A', c', l', e5, o5⟩ : IntO wA.heap.size w9 (vs 10) (sgn ng X) K := hF 10 (by decide) rfl
  have b9 := HA.out.2.2.2.keep hp
  have hb9 := below_then HA.out.1 hp
  clear hF
  show wpList Try.prog _ _ [_] _ _
  simp [stL, Act.put, e5]
  refine wp_st rfl 26 _ _ rfl (w.heap.size + 1 + 1) 0 [.bool neg', .slice A' l'.length c'] rfl rfl size_Int rfl b9 (Nat.le_refl _) rfl ?_
  intro W9 c9 g9
  have hW := put_facts (g := w.heap.size + 1 + 1) hb9 (by omega) g9
  have HO := Lib.hid ((o5.1.away g9 HA.out.2.2.2.1).base (base' := w.heap.size) HA.out.1.size)
  have HC := Lib.hid (And.intro c9 (And.intro hW o5.2))
  clear c9 g9 hW o5 e5 b9 hb9 hp
  go_wp2_with fail
  obtain ⟨dsc, hd1, hd2⟩ := row_Int
  refine bodyPost_ret (resC rfl _ _ W9 (g := w.heap.size + 1 + 1) rfl (res_box 26 HC.out.1 dsc hd1 hd2 size_Int)) rfl ?_
  exact ⟨_, rfl, ⟨neg', A', c', l', rfl, HO.out, HC.out.2.2⟩, HC.out.2.1⟩
end Go.Proofs.Ytmdfgidejdiiiaa
end
section
namespace Go.Proofs.Ytmdfgidejdiiiaa
open Go.RowKit
theorem cmp_facts3 (x y : Int) : (cmpI x y = -1 → x < y) ∧ (cmpI x y ≠ -1 → y ≤ x) := by
  unfold cmpI
  split
  · exact ⟨fun _ => by assumption, fun h => absurd rfl h⟩
  · refine ⟨fun h => ?_, fun _ => by omega⟩
    split at h <;> omega
set_option maxRecDepth 100000 in
set_option maxHeartbeats 4000000 in
theorem it_Add (na nb : Bool) (A B : Option Addr) (n m c d : Nat) (a b : List Int) (w : World) (ha : DigA w A a) (hb : DigA w B b) (hn : a.length = n) (hm : b.length = m) (hc : n ≤ c) (hd : m ≤ d) (h9 : n ≤ 1000000) (h8 : m ≤ 1000000) :
    Calls Try.prog 94 #[.agg #[.bool na, .slice A n c], .agg #[.bool nb, .slice B m d]] w (RetI w (sgn na (nv a) + sgn nb (nv b)) (max n m + 1)) := by
  obtain ⟨K, hK⟩ : ∃ K, max n m + 1 = K := ⟨_, rfl⟩
  have CM : Hid (∀ w1, Below w.heap.size w w1 → Calls Try.prog 121 #[.slice A n c, .slice B m d] w1 (RetN w1 (nv a + nv b) K)) := Lib.hid fun w1 h => hK ▸ nt_Add A B n m c d a b w1 (ha.grow h) (hb.grow h) hn hm hc hd (by omega) (by omega)
  have CQ : Hid (∀ w1, Below w.heap.size w w1 → Calls Try.prog 95 #[.slice A n c, .slice B m d] w1 fun e w' => e = .returned (.int .i64 (cmpI (nv a) (nv b))) ∧ Below w1.heap.size w1 w') := Lib.hid fun w1 h => nt_Compare A B n m c d a b w1 (ha.grow h) (hb.grow h) hn hm hc hd (by omega) (by omega)
  have CS : Hid (∀ w1, Below w.heap.size w w1 → Calls Try.prog 122 #[.slice A n c, .slice B m d] w1 (RetN w1 (if nv a ≤ nv b then 0 else nv a - nv b) K)) := Lib.hid fun w1 h => (nt_Sub A B n m c d a b w1 (ha.grow h) (hb.grow h) hn hm hc hd (by omega) (by omega)).mono fun _ _ h => h.le (by omega)
  have CT : Hid (∀ w1, Below w.heap.size w w1 → Calls Try.prog 122 #[.slice B m d, .slice A n c] w1 (RetN w1 (if nv b ≤ nv a then 0 else nv b - nv a) K)) := Lib.hid fun w1 h => (nt_Sub B A m n d c b a w1 (hb.grow h) (ha.grow h) hm hn hd hc (by omega) (by omega)).mono fun _ _ h => h.le (by omega)
  rw [hK]
  obtain ⟨x, hx⟩ : ∃ x, nv a = x := ⟨_, rfl⟩
  obtain ⟨y, hy⟩ : ∃ x, nv b = x := ⟨_, rfl⟩
  rw [hx, hy] at CM CQ CS ⊢
  rw [hx, hy] at CT
  clear hx hy ha hb hn hm hc hd hK
  obtain ⟨Z, hZ⟩ : ∃ Z, sgn na x + sgn nb y = Z := ⟨_, rfl⟩
  obtain ⟨X1, hX1⟩ : ∃ X, x + y = X := ⟨_, rfl⟩
  obtain ⟨X2, hX2⟩ : ∃ X, (if x ≤ y then 0 else x - y) = X := ⟨_, rfl⟩
  obtain ⟨X3, hX3⟩ : ∃ X, (if y ≤ x then 0 else y - x) = X := ⟨_, rfl⟩
  obtain ⟨R, hR⟩ : ∃ X, cmpI x y = X := ⟨_, rfl⟩
  rw [hX1] at CM
  rw [hX2] at CS
  rw [hX3] at CT
  rw [hR] at CQ
  rw [hZ]
  have HF := Lib.hid (And.intro hZ (And.intro hX1 (And.intro hX2 (And.intro hX3 hR))))
  clear hZ hX1 hX2 hX3 hR
  go_enter Try.func94, Try.ntmps94
  go_upto_region 1 with fail
  have hB : Below w.heap.size w (((w.alloc (.cells #[.bool na, .slice A n c] 26)).alloc (.cells #[.bool nb, .slice B m d] 26)).alloc (.cells #[.bool false, .slice none 0 0] 26)) := (((Below.refl _ _).alloc (Nat.le_refl _) _).alloc (by simp) _).alloc (by simp; omega) _
  have b1 : Box (((w.alloc (.cells #[.bool na, .slice A n c] 26)).alloc (.cells #[.bool nb, .slice B m d] 26)).alloc (.cells #[.bool false, .slice none 0 0] 26)) w.heap.size [.bool na, .slice A n c] := ((Box.new rfl).alloc _).alloc _
  have b2 : Box (((w.alloc (.cells #[.bool na, .slice A n c] 26)).alloc (.cells #[.bool nb, .slice B m d] 26)).alloc (.cells #[.bool false, .slice none 0 0] 26)) (w.heap.size + 1) [.bool nb, .slice B m d] := (Box.new (by simp)).alloc _
  have b3 : Box (((w.alloc (.cells #[.bool na, .slice A n c] 26)).alloc (.cells #[.bool nb, .slice B m d] 26)).alloc (.cells #[.bool false, .slice none 0 0] 26)) (w.heap.size + 1 + 1) [.bool false, .slice none 0 0] := Box.new (by simp)
  generalize ((w.alloc (.cells #[.bool na, .slice A n c] 26)).alloc (.cells #[.bool nb, .slice B m d] 26)).alloc (.cells #[.bool false, .slice none 0 0] 26) = wB at hB b1 b2 b3 ⊢
  obtain ⟨y1, y2⟩ := b1.c2
  obtain ⟨y3, y4⟩ := b2.c2
  have HB := Lib.hid (And.intro hB (And.intro b1 (And.intro b2 b3)))
  clear hB b1 b2 b3
  by_cases hs : na = nb
  · have HZ : Hid (sgn na X1 = Z) := Lib.hid (by have h := HF.out; rw [← h.1, ← h.2.1, ← hs]; cases na <;> simp [sgn] <;> omega)
    have hs' : (na == nb) = true := by simp [hs]
    clear hs
    go_upto_region 2 with fail
    have HA := HB
    generalize wB = wA at HA ⊢
    clear y1 y2 y3 y4 HB
    refine wp_region_grow2 (fun i => Nat.blt i 8) (fun _ => false) (fun w9 => Below wA.heap.size wA w9) (fun a b => Below a.heap.size a b) (dN wA.heap.size [.v (.pointer (some ⟨w.heap.size, 0, none⟩)), .v (.bool na), .v (.pointer (some ⟨w.heap.size, 1, none⟩)), .v (.slice A n c), .v (.pointer (some ⟨w.heap.size + 1, 1, none⟩)), .v (.slice B m d), .num X1 K, .int (sgn na X1) K]) (by kernel_rfl) (by kernel_rfl) (Below.refl _ _).drew (fun a b h1 h2 => ⟨below_then h1 h2, fun i _ v => dN_keep h2 i v⟩) (fun _ _ => Below.refl _ _) ?_ (fun _ _ _ _ h => by cases h) ?_
    · refine ⟨?_, ?_, ?_, ?_, ?_, ?_, ?_, ?_, trivial⟩
      all_goals
        intro vs w9 hp hF
        have HP := Lib.hid hp
        obtain ⟨z1, z2⟩ := (HA.out.2.1.keep hp).c2
        obtain ⟨z3, z4⟩ := (HA.out.2.2.1.keep hp).c2
        clear hp
        simp [depsB, Region.binds, dN] at hF
        simp [stL, depsB, Region.binds, Act.put, hF]
      · (go_wp2_with fail; exact ⟨rfl, Below.refl _ _⟩)
      · (go_wp2_with fail; exact ⟨rfl, Below.refl _ _⟩)
      · (go_wp2_with fail; exact ⟨rfl, Below.refl _ _⟩)
      · (go_wp2_with fail; exact ⟨rfl, Below.refl _ _⟩)
      · (go_wp2_with fail; exact ⟨rfl, Below.refl _ _⟩)
      · (go_wp2_with fail; exact ⟨rfl, Below.refl _ _⟩)
      · go_wp2_with (go_at_call 121; (with_reducible refine (CM.out _ (below_then HA.out.1 HP.out)).mono ?_); intro e1 w1' h1; obtain ⟨v1, rfl, o1, hb1⟩ := h1.num (b := wA.heap.size) HP.out.size)
        exact o1
      · obtain ⟨h1, A', c', l', e4, o4, n4, m4, k4⟩ := hF
        simp only [e4]
        go_wp2_with (go_at_call 114; (with_reducible refine (it_signed _ _ _ _ _).mono ?_); rintro e1 w1' ⟨rfl, hb1⟩)
        exact ⟨_, A', c', l', rfl, o4.grow hb1, m4, k4, by rw [sgn_len m4 o4.dig, n4]⟩
    intro vs w9 hp hF
    obtain ⟨neg', A', c', l', e5, o5⟩ : IntO wA.heap.size w9 (vs 7) (sgn na X1) K := hF 7 (by decide) rfl
    have b9 := HA.out.2.2.2.keep hp
    have hb9 := below_then HA.out.1 hp
    clear hF
    show wpList Try.prog _ _ [_] _ _
    simp [stL, Act.put, e5]
    refine wp_st rfl 26 _ _ rfl (w.heap.size + 1 + 1) 0 [.bool neg', .slice A' l'.length c'] rfl rfl size_Int rfl b9 (Nat.le_refl _) rfl ?_
    intro W9 c9 g9
    have hW := put_facts (g := w.heap.size + 1 + 1) hb9 (by omega) g9
    have HO := Lib.hid ((o5.1.away g9 HA.out.2.2.2.1).base (base' := w.heap.size) HA.out.1.size)
    have HC := Lib.hid (And.intro c9 (And.intro hW o5.2))
    clear c9 g9 hW o5 e5 b9 hb9 hp
    go_wp2_with fail
    obtain ⟨dsc, hd1, hd2⟩ := row_Int
    refine bodyPost_ret (resC rfl _ _ W9 (g := w.heap.size + 1 + 1) rfl (res_box 26 HC.out.1 dsc hd1 hd2 size_Int)) rfl ?_
    exact ⟨_, rfl, ⟨neg', A', c', l', rfl, HO.out, HC.out.2.2.1, HC.out.2.2.2.1, by rw [HC.out.2.2.2.2]; exact HZ.out⟩, HC.out.2.1⟩
  · have hs' : (na == nb) = false := by simp [hs]
    by_cases hr : R = -1
    · have HZ : Hid (sgn nb X3 = Z) := Lib.hid (by
        have h := HF.out
        have h1 := (cmp_facts3 x y).1 (by rw [h.2.2.2.2]; exact hr)
        have h2 := h.2.2.2.1
        rw [if_neg (by omega)] at h2
        rw [← h.1, ← h2]
        cases na <;> cases nb <;> simp [sgn] at hs ⊢ <;> omega)
      subst hr
      clear hs
      go_upto_region 4 with (go_at_call 95; (with_reducible refine (CQ.out _ HB.out.1).mono ?_); rintro e1 wA ⟨rfl, hb1⟩; have HA := Lib.hid (And.intro (below_then HB.out.1 hb1) (And.intro (HB.out.2.1.keep hb1) (And.intro (HB.out.2.2.1.keep hb1) (HB.out.2.2.2.keep hb1)))); clear hb1)
      clear y1 y2 y3 y4 HB
      refine wp_region_grow2 (fun i => Nat.blt i 8) (fun _ => false) (fun w9 => Below wA.heap.size wA w9) (fun a b => Below a.heap.size a b) (dN wA.heap.size [.v (.pointer (some ⟨w.heap.size + 1, 0, none⟩)), .v (.bool nb), .v (.pointer (some ⟨w.heap.size + 1, 1, none⟩)), .v (.slice B m d), .v (.pointer (some ⟨w.heap.size, 1, none⟩)), .v (.slice A n c), .num X3 K, .int (sgn nb X3) K]) (by kernel_rfl) (by kernel_rfl) (Below.refl _ _).drew (fun a b h1 h2 => ⟨below_then h1 h2, fun i _ v => dN_keep h2 i v⟩) (fun _ _ => Below.refl _ _) ?_ (fun _ _ _ _ h => by cases h) ?_
      · refine ⟨?_, ?_, ?_, ?_, ?_, ?_, ?_, ?_, trivial⟩
        all_goals
          intro vs w9 hp hF
          have HP := Lib.hid hp
          obtain ⟨z1, z2⟩ := (HA.out.2.1.keep hp).c2
          obtain ⟨z3, z4⟩ := (HA.out.2.2.1.keep hp).c2
          clear hp
          simp [depsB, Region.binds, dN] at hF
          simp [stL, depsB, Region.binds, Act.put, hF]
        · (go_wp2_with fail; exact ⟨rfl, Below.refl _ _⟩)
        · (go_wp2_with fail; exact ⟨rfl, Below.refl _ _⟩)
        · (go_wp2_with fail; exact ⟨rfl, Below.refl _ _⟩)
        · (go_wp2_with fail; exact ⟨rfl, Below.refl _ _⟩)
        · (go_wp2_with fail; exact ⟨rfl, Below.refl _ _⟩)
        · (go_wp2_with fail; exact ⟨rfl, Below.refl _ _⟩)
        · go_wp2_with (go_at_call 122; (with_reducible refine (CT.out _ (below_then HA.out.1 HP.out)).mono ?_); intro e1 w1' h1; obtain ⟨v1, rfl, o1, hb1⟩ := h1.num (b := wA.heap.size) HP.out.size)
          exact o1
        · obtain ⟨h1, A', c', l', e4, o4, n4, m4, k4⟩ := hF
          simp only [e4]
          go_wp2_with (go_at_call 114; (with_reducible refine (it_signed _ _ _ _ _).mono ?_); rintro e1 w1' ⟨rfl, hb1⟩)
          exact ⟨_, A', c', l', rfl, o4.grow hb1, m4, k4, by rw [sgn_len m4 o4.dig, n4]⟩
      intro vs w9 hp hF
      obtain ⟨neg', A', c', l', e5, o5⟩ : IntO wA.heap.size w9 (vs 7) (sgn nb X3) K := hF 7 (by decide) rfl
      have b9 := HA.out.2.2.2.keep hp
      have hb9 := below_then HA.out.1 hp
      clear hF
      show wpList Try.prog _ _ [_] _ _
      simp [stL, Act.put, e5]
      refine wp_st rfl 26 _ _ rfl (w.heap.size + 1 + 1) 0 [.bool neg', .slice A' l'.length c'] rfl rfl size_Int rfl b9 (Nat.le_refl _) rfl ?_
      intro W9 c9 g9
      have hW := put_facts (g := w.heap.size + 1 + 1) hb9 (by omega) g9
      have HO := Lib.hid ((o5.1.away g9 HA.out.2.2.2.1).base (base' := w.heap.size) HA.out.1.size)
      have HC := Lib.hid (And.intro c9 (And.intro hW o5.2))
      clear c9 g9 hW o5 e5 b9 hb9 hp
      go_wp2_with fail
      obtain ⟨dsc, hd1, hd2⟩ := row_Int
      refine bodyPost_ret (resC rfl _ _ W9 (g := w.heap.size + 1 + 1) rfl (res_box 26 HC.out.1 dsc hd1 hd2 size_Int)) rfl ?_
      exact ⟨_, rfl, ⟨neg', A', c', l', rfl, HO.out, HC.out.2.2.1, HC.out.2.2.2.1, by rw [HC.out.2.2.2.2]; exact HZ.out⟩, HC.out.2.1⟩
    · have HZ : Hid (sgn na X2 = Z) := Lib.hid (by
        have h := HF.out
        have h1 := (cmp_facts3 x y).2 (by rw [h.2.2.2.2]; exact hr)
        have h2 : x - y = X2 := by
          rw [← h.2.2.1]
          split <;> omega
        rw [← h.1, ← h2]
        cases na <;> cases nb <;> simp [sgn] at hs ⊢ <;> omega)
      have hr' : (R == -1) = false := by simp [hr]
      clear hs
      go_upto_region 5 with (go_at_call 95; (with_reducible refine (CQ.out _ HB.out.1).mono ?_); rintro e1 wA ⟨rfl, hb1⟩; have HA := Lib.hid (And.intro (below_then HB.out.1 hb1) (And.intro (HB.out.2.1.keep hb1) (And.intro (HB.out.2.2.1.keep hb1) (HB.out.2.2.2.keep hb1)))); clear hb1)
      clear y1 y2 y3 y4 HB
      refine wp_region_grow2 (fun i => Nat.blt i 8) (fun _ => false) (fun w9 => Below wA.heap.size wA w9) (fun a b => Below a.heap.size a b) (dN wA.heap.size [.v (.pointer (some ⟨w.heap.size, 0, none⟩)), .v (.bool na), .v (.pointer (some ⟨w.heap.size, 1, none⟩)), .v (.slice A n c), .v (.pointer (some ⟨w.heap.size + 1, 1, none⟩)), .v (.slice B m d), .num X2 K, .int (sgn na X2) K]) (by kernel_rfl) (by kernel_rfl) (Below.refl _ _).drew (fun a b h1 h2 => ⟨below_then h1 h2, fun i _ v => dN_keep h2 i v⟩) (fun _ _ => Below.refl _ _) ?_ (fun _ _ _ _ h => by cases h) ?_
      · refine ⟨?_, ?_, ?_, ?_, ?_, ?_, ?_, ?_, trivial⟩
        all_goals
          intro vs w9 hp hF
          have HP := Lib.hid hp
          obtain ⟨z1, z2⟩ := (HA.out.2.1.keep hp).c2
          obtain ⟨z3, z4⟩ := (HA.out.2.2.1.keep hp).c2
          clear hp
          simp [depsB, Region.binds, dN] at hF
          simp [stL, depsB, Region.binds, Act.put, hF]
        · (go_wp2_with fail; exact ⟨rfl, Below.refl _ _⟩)
        · (go_wp2_with fail; exact ⟨rfl, Below.refl _ _⟩)
        · (go_wp2_with fail; exact ⟨rfl, Below.refl _ _⟩)
        · (go_wp2_with fail; exact ⟨rfl, Below.refl _ _⟩)
        · (go_wp2_with fail; exact ⟨rfl, Below.refl _ _⟩)
        · (go_wp2_with fail; exact ⟨rfl, Below.refl _ _⟩)
        · go_wp2_with (go_at_call 122; (with_reducible refine (CS.out _ (below_then HA.out.1 HP.out)).mono ?_); intro e1 w1' h1; obtain ⟨v1, rfl, o1, hb1⟩ := h1.num (b := wA.heap.size) HP.out.size)
          exact o1
        · obtain ⟨h1, A', c', l', e4, o4, n4, m4, k4⟩ := hF
          simp only [e4]
          go_wp2_with (go_at_call 114; (with_reducible refine (it_signed _ _ _ _ _).mono ?_); rintro e1 w1' ⟨rfl, hb1⟩)
          exact ⟨_, A', c', l', rfl, o4.grow hb1, m4, k4, by rw [sgn_len m4 o4.dig, n4]⟩
      intro vs w9 hp hF
      obtain ⟨neg', A', c', l', e5, o5⟩ : IntO wA.heap.size w9 (vs 7) (sgn na X2) K := hF 7 (by decide) rfl
      have b9 := HA.out.2.2.2.keep hp
      have hb9 := below_then HA.out.1 hp
      clear hF
      show wpList Try.prog _ _ [_] _ _
      simp [stL, Act.put, e5]
      refine wp_st rfl 26 _ _ rfl (w.heap.size + 1 + 1) 0 [.bool neg', .slice A' l'.length c'] rfl rfl size_Int rfl b9 (Nat.le_refl _) rfl ?_
      intro W9 c9 g9
      have hW := put_facts (g := w.heap.size + 1 + 1) hb9 (by omega) g9
      have HO := Lib.hid ((o5.1.away g9 HA.out.2.2.2.1).base (base' := w.heap.size) HA.out.1.size)
      have HC := Lib.hid (And.intro c9 (And.intro hW o5.2))
      clear c9 g9 hW o5 e5 b9 hb9 hp
      go_wp2_with fail
      obtain ⟨dsc, hd1, hd2⟩ := row_Int
      refine bodyPost_ret (resC rfl _ _ W9 (g := w.heap.size + 1 + 1) rfl (res_box 26 HC.out.1 dsc hd1 hd2 size_Int)) rfl ?_
      exact ⟨_, rfl, ⟨neg', A', c', l', rfl, HO.out, HC.out.2.2.1, HC.out.2.2.2.1, by rw [HC.out.2.2.2.2]; exact HZ.out⟩, HC.out.2.1⟩
end Go.Proofs.Ytmdfgidejdiiiaa
end
