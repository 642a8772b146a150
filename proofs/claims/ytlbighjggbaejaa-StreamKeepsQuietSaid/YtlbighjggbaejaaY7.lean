/- The walk of the law StreamKeepsQuiet. -/
import Derived.Test.YtlbighjggbaejaaY6
namespace Go.Proofs.Ytlbighjggbaejaa
open Go.RowKit

/-- A slice of three events. -/
def IsEvs (es : List EvA) (v : Value) (w : World) : Prop := ∃ q, v = .slice (some ⟨q, 0, none⟩) 3 3 ∧ EvsAt w (some ⟨q, 0, none⟩) es
/-- What Play hands back where all goes well. -/
def PlayR (O : List Int) (w1 : World) (v : Value) (w2 : World) : Prop := ∃ (u : StrA) (A : Option Addr) (c : Nat), v = .tuple #[.slice A O.length c, u.v, .int .i64 0] ∧ StrF w1.heap.size w2 u ∧ IntsF w1.heap.size w2 A O
/-- What Run hands back. -/
def RunR (O S : List Int) (w1 : World) (v : Value) (w2 : World) : Prop := ∃ (A B : Option Addr) (c b : Nat) (k : Int), v = .tuple #[.slice A O.length c, .slice B S.length b, .int .i64 k, .int .i64 0] ∧ IntsF w1.heap.size w2 A O ∧ IntsF w1.heap.size w2 B S
def plyF (W : World) (R : World → Value → World → Prop) (nv wv xv : Value) (fd f : Int) (e1 e2 e3 : EvA) : Nat → Value → World → Prop
  | 0, v, _ => v = nv | 1, v, _ => v = wv | 2, v, _ => v = e1.v | 3, v, _ => v = nv | 4, v, _ => v = .int .i64 fd | 5, v, _ => v = .int .i64 f | 6, v, _ => v = e2.v | 7, v, _ => v = xv | 8, v, _ => v = e3.v
  | 9, v, w => IsEvs [e1, e2, e3] v w
  | 10, v, w => CallF W R v w ∧ Is3 v
  | 11, v, _ => Is3 v
  | 15, v, w => NewF W v w
  | _, _, _ => True
def plyG (R : World → Value → World → Prop) : Nat → Value → World → World → Prop
  | 10, v, a, b => R a v b
  | 15, v, a, _ => v = .pointer (some ⟨a.heap.size, 0, none⟩)
  | _, _, _, _ => True
theorem plyF_keep {W : World} {R : World → Value → World → Prop} {nv wv xv : Value} {fd f : Int} {e1 e2 e3 : EvA} {a b : World} (h : Below a.heap.size a b) : ∀ i v, plyF W R nv wv xv fd f e1 e2 e3 i v a → plyF W R nv wv xv fd f e1 e2 e3 i v b
  | 0, _, e => e | 1, _, e => e | 2, _, e => e | 3, _, e => e | 4, _, e => e | 5, _, e => e | 6, _, e => e | 7, _, e => e | 8, _, e => e | 11, _, e => e
  | 9, _, ⟨q, e, he⟩ => ⟨q, e, he.grow h⟩
  | 10, _, ⟨hc, h3⟩ => ⟨hc.keep h, h3⟩
  | 15, _, hn => NewF.keep hn h
  | 12, _, _ => trivial | 13, _, _ => trivial | 14, _, _ => trivial | _ + 16, _, _ => trivial
/-- The region with Run: what lasts; what lasts for a while; who ends it; what is new. -/
def ruK (W : World) (nv wv xv : Value) (g sk : Nat) (lw lx O S : List Int) : Nat → Value → World → Prop
  | 0, v, _ => v = nv | 1, v, _ => v = .pointer (some ⟨g, 8, none⟩) | 2, v, _ => v = .int .i64 sk
  | 3, v, w => ∃ q, v = .slice (some ⟨q, 0, none⟩) sk sk ∧ W.heap.size ≤ q ∧ q < w.heap.size
  | 4, v, w => ∃ q, v = .slice (some ⟨q, 0, none⟩) 0 0 ∧ W.heap.size ≤ q ∧ q < w.heap.size
  | 5, v, _ => v = wv
  | 6, v, w => (∃ A c, v = .slice A lw.length c) ∧ ∀ q, v.ownBlock = some q → W.heap.size ≤ q ∧ q < w.heap.size
  | 7, v, _ => v = xv
  | 8, v, w => IsIntsF W.heap.size (lw ++ lx) v w
  | 9, v, w => CallF W (RunR O S) v w ∧ Is4 v
  | 10, v, _ => Is4 v
  | _, _, _ => True
def ruV (W : World) (sk : Nat) (lw : List Int) : Nat → Value → World → Prop
  | 3, v, w => Own W.heap.size w v (List.replicate sk 0)
  | 4, v, w => Own W.heap.size w v []
  | 6, v, w => Own W.heap.size w v lw
  | _, _, _ => True
def ruC : Nat → Option Nat
  | 3 => some 9 | 4 => some 6 | 6 => some 8 | _ => none
def ruG (sk : Nat) : Nat → (Nat → Value) → Value → World → World → Prop
  | 3, _, x, a, b => Below a.heap.size a b ∧ x = .slice (some ⟨a.heap.size, 0, none⟩) sk sk
  | 4, _, x, a, b => Below a.heap.size a b ∧ x = .slice (some ⟨a.heap.size, 0, none⟩) 0 0
  | 6, vs, x, a, b => a.grownBy b (vs 4).ownBlock ∧ ∀ q, x.ownBlock = some q → q = a.heap.size ∨ (vs 4).ownBlock = some q
  | 8, vs, _, a, b => a.grownBy b (vs 6).ownBlock
  | _, _, _, a, b => Below a.heap.size a b
theorem ruG_below {sk : Nat} {vs : Nat → Value} {x : Value} {a b : World} : ∀ j, j ≠ 6 → j ≠ 8 → ruG sk j vs x a b → Below a.heap.size a b
  | 0, _, _, h => h | 1, _, _, h => h | 2, _, _, h => h | 3, _, _, h => h.1 | 4, _, _, h => h.1 | 5, _, _, h => h | 7, _, _, h => h
  | 6, h, _, _ => absurd rfl h
  | 8, _, h, _ => absurd rfl h
  | _ + 9, _, _, h => h
theorem ruG_local {sk : Nat} {vs vs' : Nat → Value} {x : Value} {a b : World} : ∀ j, (j = 6 → vs 4 = vs' 4) → (j = 8 → vs 6 = vs' 6) → ruG sk j vs x a b → ruG sk j vs' x a b
  | 0, _, _, h => h | 1, _, _, h => h | 2, _, _, h => h | 3, _, _, h => h | 4, _, _, h => h | 5, _, _, h => h | 7, _, _, h => h
  | 6, e, _, h => by
    have h : a.grownBy b (vs 4).ownBlock ∧ ∀ q, x.ownBlock = some q → q = a.heap.size ∨ (vs 4).ownBlock = some q := h
    rw [e rfl] at h; exact h
  | 8, _, e, h => by
    have h : a.grownBy b (vs 6).ownBlock := h
    rw [e rfl] at h; exact h
  | _ + 9, _, _, h => h
theorem ruK_size {W : World} {nv wv xv : Value} {g sk : Nat} {lw lx O S : List Int} {a b : World} (h : a.heap.size ≤ b.heap.size) : ∀ i v, i ≠ 8 → i ≠ 9 → ruK W nv wv xv g sk lw lx O S i v a → ruK W nv wv xv g sk lw lx O S i v b
  | 0, _, _, _, e => e | 1, _, _, _, e => e | 2, _, _, _, e => e | 5, _, _, _, e => e | 7, _, _, _, e => e | 10, _, _, _, e => e
  | 3, _, _, _, ⟨q, e, h1, h2⟩ => ⟨q, e, h1, Nat.lt_of_lt_of_le h2 h⟩
  | 4, _, _, _, ⟨q, e, h1, h2⟩ => ⟨q, e, h1, Nat.lt_of_lt_of_le h2 h⟩
  | 6, _, _, _, ⟨e, h1⟩ => ⟨e, fun q hq => ⟨(h1 q hq).1, Nat.lt_of_lt_of_le (h1 q hq).2 h⟩⟩
  | 8, _, h8, _, _ => absurd rfl h8
  | 9, _, _, h9, _ => absurd rfl h9
  | _ + 11, _, _, _, _ => trivial
theorem ruK_keep {W : World} {nv wv xv : Value} {g sk : Nat} {lw lx O S : List Int} {a b : World} (h : Below a.heap.size a b) (i : Nat) (v : Value) (hk : ruK W nv wv xv g sk lw lx O S i v a) : ruK W nv wv xv g sk lw lx O S i v b := by
  by_cases h8 : i = 8
  · subst h8
    obtain ⟨A, c, e, hi⟩ := hk
    exact ⟨A, c, e, hi.grow h⟩
  · by_cases h9 : i = 9
    · subst h9
      exact ⟨hk.1.keep h, hk.2⟩
    · exact ruK_size h.size i v h8 h9 hk
theorem ruV_keep {W : World} {sk : Nat} {lw : List Int} {a b : World} (h : Below a.heap.size a b) : ∀ i v, ruV W sk lw i v a → ruV W sk lw i v b
  | 3, _, ho => ho.grow h | 4, _, ho => ho.grow h | 6, _, ho => ho.grow h
  | 0, _, _ => trivial | 1, _, _ => trivial | 2, _, _ => trivial | 5, _, _ => trivial | _ + 7, _, _ => trivial
/-- The row of zeros lies in a block of its own. -/
theorem ru_34 {W w : World} {nv wv xv : Value} {g sk : Nat} {lw lx O S : List Int} {vs : Nat → Value} {q3 q4 : Nat} (e3 : vs 3 = .slice (some ⟨q3, 0, none⟩) sk sk) (e4 : vs 4 = .slice (some ⟨q4, 0, none⟩) 0 0)
    (hP : Prior5 (ruK W nv wv xv g sk lw lx O S) (ruG sk) (fun _ _ => True) 3 4 vs w ∨ Prior5 (ruK W nv wv xv g sk lw lx O S) (ruG sk) (fun _ _ => True) 4 3 vs w) : q3 ≠ q4 := by
  rcases hP with ⟨w1, w2, ⟨q, e, -, h1⟩, ⟨-, h2⟩, -⟩ | ⟨w1, w2, ⟨q, e, -, h1⟩, ⟨-, h2⟩, -⟩
  · rw [e3] at e; rw [e4] at h2
    injection e with e; injection e with e; injection e with e
    injection h2 with h2; injection h2 with h2; injection h2 with h2
    omega
  · rw [e4] at e; rw [e3] at h2
    injection e with e; injection e with e; injection e with e
    injection h2 with h2; injection h2 with h2; injection h2 with h2
    omega
theorem ru_36 {W w : World} {nv wv xv : Value} {g sk : Nat} {lw lx O S : List Int} {vs : Nat → Value} {q3 q4 q6 : Nat} (e3 : vs 3 = .slice (some ⟨q3, 0, none⟩) sk sk) (e4 : vs 4 = .slice (some ⟨q4, 0, none⟩) 0 0) (e6 : (vs 6).ownBlock = some q6) (h34 : q3 ≠ q4)
    (hP : Prior5 (ruK W nv wv xv g sk lw lx O S) (ruG sk) (fun _ _ => True) 3 6 vs w ∨ Prior5 (ruK W nv wv xv g sk lw lx O S) (ruG sk) (fun _ _ => True) 6 3 vs w) : q3 ≠ q6 := by
  rcases hP with ⟨w1, w2, ⟨q, e, -, h1⟩, ⟨-, h2⟩, -⟩ | ⟨w1, w2, ⟨-, h1⟩, ⟨-, h2⟩, -⟩
  · rw [e3] at e
    injection e with e; injection e with e; injection e with e
    rcases h2 q6 e6 with h2 | h2
    · omega
    · rw [e4] at h2
      have h2 : some q4 = some q6 := h2
      injection h2 with h2
      omega
  · have := (h1 q6 e6).2
    rw [e3] at h2
    injection h2 with h2; injection h2 with h2; injection h2 with h2
    omega
theorem ru_stable {W : World} {nv wv xv : Value} {g sk : Nat} {lw lx O S : List Int} (L : Nat → Bool) (j : Nat) (vs : Nat → Value) (x : Value) (w w' : World) (hC : Below W.heap.size W w)
    (hK : ∀ i, i < 15 → L i = true → ruK W nv wv xv g sk lw lx O S i (vs i) w)
    (hP : ∀ i i', i < 15 → i' < 15 → i ≠ i' → L i = true → L i' = true → Prior5 (ruK W nv wv xv g sk lw lx O S) (ruG sk) (fun _ _ => True) i i' vs w ∨ Prior5 (ruK W nv wv xv g sk lw lx O S) (ruG sk) (fun _ _ => True) i' i vs w)
    (d6 : j = 6 → L 4 = true) (d8 : j = 8 → L 6 = true) (c64 : L 6 = true → L 4 = true) (c86 : L 8 = true → L 6 = true) (c98 : L 9 = true → L 8 = true) (hLj : L j = false)
    (hV : ∀ i, i < 15 → L i = true → (∀ c, ruC i = some c → L c = false) → ruV W sk lw i (vs i) w) (hG : ruG sk j vs x w w') :
    Below W.heap.size W w' ∧ (∀ i, i < 15 → L i = true → ruK W nv wv xv g sk lw lx O S i (vs i) w') ∧ (∀ i, i < 15 → L i = true → (∀ c, ruC i = some c → L c = false ∧ c ≠ j) → ruV W sk lw i (vs i) w') ∧ True ∧ ∀ w0 : World, True → True := by
  by_cases h6 : j = 6
  · subst h6
    have l4 := d6 rfl
    have l8 : L 8 = false := by cases h : L 8 with | false => rfl | true => rw [c86 h] at hLj; cases hLj
    have l9 : L 9 = false := by cases h : L 9 with | false => rfl | true => rw [c98 h] at l8; cases l8
    obtain ⟨q4, e4, b4, s4⟩ := hK 4 (by decide) l4
    obtain ⟨hg, -⟩ := hG
    have ho : (vs 4).ownBlock = some q4 := by rw [e4]; rfl
    rw [ho] at hg
    refine ⟨hC.grown hg hC.size (fun k hk => by injection hk with hk; omega), fun i hi hl => ?_, fun i hi hl hc => ?_, trivial, fun _ _ => trivial⟩
    · exact ruK_size hg.size i _ (fun e => by subst e; rw [l8] at hl; cases hl) (fun e => by subst e; rw [l9] at hl; cases hl) (hK i hi hl)
    · match i, hl, hc with
      | 3, hl, hc =>
        obtain ⟨q3, e3, b3, s3⟩ := hK 3 (by decide) hl
        have hne := ru_34 e3 e4 (hP 3 4 (by decide) (by decide) (by decide) hl l4)
        have hv : Own W.heap.size w (vs 3) (List.replicate sk 0) := hV 3 (by decide) hl (fun c e => (hc c e).1)
        show Own W.heap.size w' (vs 3) (List.replicate sk 0)
        rw [e3] at hv ⊢
        exact hv.kept_at hg hne
      | 4, hl, hc => exact absurd rfl (hc 6 rfl).2
      | 6, hl, hc => rw [hLj] at hl; cases hl
      | 0, _, _ => trivial | 1, _, _ => trivial | 2, _, _ => trivial | 5, _, _ => trivial
      | n + 7, _, _ => exact trivial
  · by_cases h8 : j = 8
    · subst h8
      have l6 := d8 rfl
      have l4 := c64 l6
      have l9 : L 9 = false := by cases h : L 9 with | false => rfl | true => rw [c98 h] at hLj; cases hLj
      obtain ⟨-, hb6⟩ := hK 6 (by decide) l6
      have hg : w.grownBy w' (vs 6).ownBlock := hG
      refine ⟨hC.grown hg hC.size (fun k hk => (hb6 k hk).1), fun i hi hl => ?_, fun i hi hl hc => ?_, trivial, fun _ _ => trivial⟩
      · exact ruK_size hg.size i _ (fun e => by subst e; rw [hLj] at hl; cases hl) (fun e => by subst e; rw [l9] at hl; cases hl) (hK i hi hl)
      · match i, hl, hc with
        | 3, hl, hc =>
          obtain ⟨q3, e3, b3, s3⟩ := hK 3 (by decide) hl
          obtain ⟨q4, e4, b4, s4⟩ := hK 4 (by decide) l4
          have hne := ru_34 e3 e4 (hP 3 4 (by decide) (by decide) (by decide) hl l4)
          have hv : Own W.heap.size w (vs 3) (List.replicate sk 0) := hV 3 (by decide) hl (fun c e => (hc c e).1)
          show Own W.heap.size w' (vs 3) (List.replicate sk 0)
          refine ⟨hv.1.kept hg (.inr (fun e => ?_)), hv.2⟩
          rw [e3] at e
          have e : some q3 = (vs 6).ownBlock := e
          exact ru_36 e3 e4 e.symm hne (hP 3 6 (by decide) (by decide) (by decide) hl l6) rfl
        | 4, hl, hc => exact absurd (hc 6 rfl).1 (by rw [l6]; decide)
        | 6, hl, hc => exact absurd rfl (hc 8 rfl).2
        | 0, _, _ => trivial | 1, _, _ => trivial | 2, _, _ => trivial | 5, _, _ => trivial
        | n + 7, _, _ => exact trivial
    · have hb := ruG_below j h6 h8 hG
      exact ⟨below_then hC hb, fun i hi hl => ruK_keep hb i _ (hK i hi hl), fun i hi hl hc => ruV_keep hb i _ (hV i hi hl (fun c e => (hc c e).1)), trivial, fun _ _ => trivial⟩
/-- Whose value is taken by whom: looked at in the region's own list. -/
def consB (N : Nat) (l : List Oper) (cons : Nat → Option Nat) : Bool := (List.range N).all fun k => match l[k]? with | none => true | some o => o.after.toList.all fun e => !Region.binds .any e || (cons e.on == none || cons e.on == some k)
theorem consB_spec {N : Nat} {l : List Oper} {cons : Nat → Option Nat} (h : consB N l cons = true) : ∀ (k : Nat) o, l[k]? = some o → ∀ i, depsB .any o i = true → k < N → cons i = none ∨ cons i = some k := fun k o ho i hi hk => by
  have h1 := List.all_eq_true.1 h k (List.mem_range.2 hk)
  rw [ho] at h1
  obtain ⟨e, he, hb, rfl⟩ := depsB_mem hi
  have h2 := List.all_eq_true.1 h1 e (by simpa using he)
  simpa [hb] using h2
set_option maxRecDepth 100000 in
set_option maxHeartbeats 16000000 in
theorem law_StreamKeepsQuiet (u : RawA) (fd : Int) (b i : Option Addr × Nat × List Int) (w : World) (hu : RawOk w u) (hfd : I64 fd) (hb : Ints w b.1 b.2.2 ∧ b.2.2.length ≤ 9223372036854775807) (hi : Ints w i.1 i.2.2 ∧ i.2.2.length ≤ 9223372036854775807) :
    Calls Try.prog 3 #[u.val, .int .i64 fd, .slice b.1 b.2.2.length b.2.1, .slice i.1 i.2.2.length i.2.1] w (BoolBw w true) := by
  obtain ⟨BA, bc, bl⟩ := b
  obtain ⟨IA, ic, il⟩ := i
  obtain ⟨hB, hbl⟩ := hb
  obtain ⟨hI, hil⟩ := hi
  simp only at hB hI hbl hil ⊢
  obtain ⟨bn, hbn⟩ : ∃ k, bl.length = k := ⟨_, rfl⟩
  obtain ⟨im, him⟩ : ∃ k, il.length = k := ⟨_, rfl⟩
  rw [hbn, him]
  have HBN := Lib.hid hbn
  have HIM := Lib.hid him
  rw [hbn] at hbl
  rw [him] at hil
  clear hbn him
  by_cases h0 : (im : Int) ≤ 30
  rotate_left
  · have h0 : (30 : Int) < (im : Int) := Int.not_le.1 h0
    have d0 : decide ((30 : Int) < (im : Int)) = true := decide_eq_true h0
    clear hu hB hI
    show Calls Try.prog 3 #[.agg u.lst.toArray, .int .i64 fd, .slice BA bn bc, .slice IA im ic] w _
    go_enter Try.func3, Try.ntmps3
    go_upto_region 1 with fail
    have bx0 : Box (w.alloc (.cells u.lst.toArray 25)) w.heap.size u.lst := Box.new rfl
    have hb0 := (Below.refl w.heap.size w).alloc (Nat.le_refl _) (.cells u.lst.toArray 25)
    change Code.wp _ _ _ _ (w.alloc (.cells u.lst.toArray 25))
    generalize (w.alloc (.cells u.lst.toArray 25)) = W0 at bx0 hb0 ⊢
    go_wp2_with (go_at_call 4; refine (known42 _).mono ?_; rintro e1 w1 ⟨rfl, hb1⟩; have hw1 := below_then hb0 hb1)
    go_ret
    exact ⟨rfl, hw1⟩
  have d0 : decide ((30 : Int) < (im : Int)) = false := decide_eq_false (Int.not_lt.2 h0)
  by_cases h1 : (bn : Int) ≤ 20
  rotate_left
  · have h1 : (20 : Int) < (bn : Int) := Int.not_le.1 h1
    have d1 : decide ((20 : Int) < (bn : Int)) = true := decide_eq_true h1
    clear hu hB hI
    show Calls Try.prog 3 #[.agg u.lst.toArray, .int .i64 fd, .slice BA bn bc, .slice IA im ic] w _
    go_enter Try.func3, Try.ntmps3
    go_upto_region 1 with fail
    have bx0 : Box (w.alloc (.cells u.lst.toArray 25)) w.heap.size u.lst := Box.new rfl
    have hb0 := (Below.refl w.heap.size w).alloc (Nat.le_refl _) (.cells u.lst.toArray 25)
    change Code.wp _ _ _ _ (w.alloc (.cells u.lst.toArray 25))
    generalize (w.alloc (.cells u.lst.toArray 25)) = W0 at bx0 hb0 ⊢
    go_wp2_with (go_at_call 4; refine (known42 _).mono ?_; rintro e1 w1 ⟨rfl, hb1⟩; have hw1 := below_then hb0 hb1)
    go_ret
    exact ⟨rfl, hw1⟩
  have d1 : decide ((20 : Int) < (bn : Int)) = false := decide_eq_false (Int.not_lt.2 h1)
  have CN : Hid (∀ w1, Below w.heap.size w w1 → Calls Try.prog 5 #[.agg u.lst.toArray] w1 (RetRN w1)) := fun w1 hb => raw_RN u w1 (hu.grow hb)
  have HB := Lib.hid hB
  have HI := Lib.hid hI
  clear hu hB hI
  show Calls Try.prog 3 #[.agg u.lst.toArray, .int .i64 fd, .slice BA bn bc, .slice IA im ic] w _
  go_enter Try.func3, Try.ntmps3
  go_upto_region 1 with fail
  have bx0 : Box (w.alloc (.cells u.lst.toArray 25)) w.heap.size u.lst := Box.new rfl
  have hb0 := (Below.refl w.heap.size w).alloc (Nat.le_refl _) (.cells u.lst.toArray 25)
  change Code.wp _ _ _ _ (w.alloc (.cells u.lst.toArray 25))
  generalize (w.alloc (.cells u.lst.toArray 25)) = W0 at bx0 hb0 ⊢
  go_upto_region 4 with (first
    | ((with_reducible show wpList _ _ _ (Oper.mk _ (.load _ _) _ _ _ _ :: _) _ _); refine ld_raw bx0 rfl _ rfl rfl ?_)
    | (go_at_call 5; (with_reducible refine (CN.out _ hb0).mono ?_); rintro e1 w1 ⟨n, NA, nc, XA, xc, rfl, hok, hst3, hns4, hnf, hb1⟩)
    | ((with_reducible show wpList _ _ _ (Oper.mk _ (.store _ _ _) _ _ _ _ :: _) _ _); refine st_netBx (w := w1.alloc (.cells zNet.toArray 31)) (g := w1.heap.size) (vs := zNet) (n := n) (NB := NA) (nb := nc) (XB := XA) (xb := xc) (Box.new rfl) rfl rfl _ _ rfl rfl rfl ?_; intro W1 bn1 pg1))
  have hal1 := put_facts ((Below.refl w1.heap.size w1).alloc (Nat.le_refl _) (.cells zNet.toArray 31)) (Nat.le_refl _) pg1
  have HW1 := Lib.hid (below_then hb0 (below_then hb1 hal1))
  have HN1 := Lib.hid (hnf.at.grow hal1)
  have HOK := Lib.hid hok
  have BN1 := Lib.hid bn1
  obtain ⟨p1, -, ⟨p2, p3⟩, -⟩ := netB_parts hok
  have HP1 := Lib.hid p1
  obtain ⟨sk, hsk⟩ : ∃ k : Nat, n.st = (k : Int) := ⟨n.st.toNat, by omega⟩
  have HSK := Lib.hid hsk
  have hsk3 : sk ≤ 3 := by omega
  generalize w1.heap.size = g at BN1 ⊢
  obtain ⟨lw, hlw⟩ : ∃ l, wordsF n.d0 n.d1 n.d2 n.d3 bl bn = l := ⟨_, rfl⟩
  obtain ⟨lx, hlx⟩ : ∃ l, wordsF n.d0 n.d1 n.d2 n.d3 il im = l := ⟨_, rfl⟩
  have HLW : Hid (lw.length = bn) := by show _ = _; rw [← hlw, wordsF_length]
  have HLX : Hid (lx.length = im) := by show _ = _; rw [← hlx, wordsF_length]
  have HFW : Hid (n.fit lw = true) := by show _ = _; rw [← hlw]; exact fit_words hok
  have HFX : Hid (n.fit lx = true) := by show _ = _; rw [← hlx]; exact fit_words hok
  have CW : Hid (∀ w1, Below w.heap.size w w1 → Calls Try.prog 6 #[wordV n.d0 n.d1 n.d2 n.d3, .slice BA bn bc, .int .i64 bn] w1 fun e w' => ∃ A c, e = .returned (.slice A lw.length c) ∧ IntsF w1.heap.size w' A lw ∧ Below w1.heap.size w1 w') := fun w1 hb => by
    have := wd_Words n.d0 n.d1 n.d2 n.d3 BA bl bc bn w1 (by omega) (HB.out.grow hb)
    rw [HBN.out, hlw] at this
    refine this.mono ?_
    rintro e w' ⟨v, rfl, ho, hb⟩
    obtain ⟨A, c, rfl, -, -⟩ := ho.form
    exact ⟨A, c, rfl, IntsF.own ho, hb⟩
  have CX : Hid (∀ w1, Below w.heap.size w w1 → Calls Try.prog 6 #[wordV n.d0 n.d1 n.d2 n.d3, .slice IA im ic, .int .i64 im] w1 fun e w' => ∃ A c, e = .returned (.slice A lx.length c) ∧ IntsF w1.heap.size w' A lx ∧ Below w1.heap.size w1 w') := fun w1 hb => by
    have := wd_Words n.d0 n.d1 n.d2 n.d3 IA il ic im w1 (by omega) (HI.out.grow hb)
    rw [HIM.out, hlx] at this
    refine this.mono ?_
    rintro e w' ⟨v, rfl, ho, hb⟩
    obtain ⟨A, c, rfl, -, -⟩ := ho.form
    exact ⟨A, c, rfl, IntsF.own ho, hb⟩
  clear bx0 hb0 hb1 hnf hok bn1 pg1 hal1 p1 p2 p3 hsk hlw hlx CN
  refine wp_region_grow2 (fun i => Nat.blt i 12) (fun _ => false) (fun w2 => Below W1.heap.size W1 w2) (fun a b => Below a.heap.size a b) (wsF W1.heap.size (.pointer (some ⟨g, 0, none⟩)) (wordV n.d0 n.d1 n.d2 n.d3) (.slice BA bn bc) (.slice IA im ic) bn im lw lx) (by kernel_rfl) (by kernel_rfl) (Below.drew (Below.refl _ _)) (fun a b h1 h2 => ⟨below_then h1 h2, fun i _ v => wsF_keep h2 i v⟩) (fun w _ => Below.refl _ _) ?_ (fun j o _ _ h => by cases h) ?_
  · refine ⟨?_, ?_, ?_, ?_, ?_, ?_, ?_, ?_, ?_, ?_, ?_, ?_, trivial⟩
    all_goals
      intro vs w2 hp hF
      have HP := Lib.hid hp
      have bk := Box.keep BN1.out hp
      have z0 : w2.cell? ⟨g, 0, none⟩ = some (.int .i64 n.d0) := bk.2.1 0
      have z1 : w2.cell? ⟨g, 1, none⟩ = some (.int .i64 n.d1) := bk.2.1 1
      have z2 : w2.cell? ⟨g, 2, none⟩ = some (.int .i64 n.d2) := bk.2.1 2
      have z3 : w2.cell? ⟨g, 3, none⟩ = some (.int .i64 n.d3) := bk.2.1 3
      clear hp bk
      simp [depsB, Region.binds, wsF] at hF
      simp [stL, depsB, Region.binds, Act.put, hF]
    all_goals try (go_wp2_with fail; exact ⟨rfl, Below.refl _ _⟩)
    · go_wp2_with fail
      refine (CW.out _ (below_then HW1.out HP.out)).mono ?_
      rintro e2 w3 ⟨A, c, rfl, hi, hb3⟩
      go_wp2_with fail
      exact ⟨A, c, rfl, hi.base HP.out.size⟩
    · go_wp2_with fail
      refine (CX.out _ (below_then HW1.out HP.out)).mono ?_
      rintro e2 w3 ⟨A, c, rfl, hi, hb3⟩
      go_wp2_with fail
      exact ⟨A, c, rfl, hi.base HP.out.size⟩
  intro vs w2 hp hF
  obtain ⟨WA, wc, e5, hi5⟩ := hF 5 (by decide) rfl
  obtain ⟨XB, xb, e11, hi11⟩ := hF 11 (by decide) rfl
  show wpList Try.prog _ _ [_, _] _ _
  simp [stL, Act.put, e5, e11]
  generalize vs 0 = x10
  generalize vs 1 = x11
  generalize vs 2 = x12
  generalize vs 3 = x13
  generalize vs 4 = x14
  generalize vs 6 = x16
  generalize vs 7 = x17
  generalize vs 8 = x18
  generalize vs 9 = x19
  generalize vs 10 = x110
  have HW2 := Lib.hid (below_then HW1.out hp)
  have BN2 := Lib.hid (Box.keep BN1.out hp)
  have HN2 := Lib.hid (HN1.out.grow hp)
  have HIW := Lib.hid hi5.1
  have HIX := Lib.hid hi11.1
  clear hF e5 e11 hi5 hi11 hp BN1 HN1 HW1 CW CX
  go_upto_region 5 with fail
  obtain ⟨g1, g2⟩ := within_in (m := 20) (by decide) fd
  obtain ⟨f, hf⟩ : ∃ f, withinF fd 20 = f := ⟨_, rfl⟩
  rw [hf] at g1 g2
  have HF := Lib.hid hf
  obtain ⟨es, hes⟩ : ∃ es, es = [evS WA lw wc, evC n NA nc XA xc f, evS XB lx xb] := ⟨_, rfl⟩
  have hlw4 : lw.length ≤ 4096 := by rw [HLW.out]; omega
  have hlx4 : lx.length ≤ 4096 := by rw [HLX.out]; omega
  obtain ⟨e0, eO, hgd⟩ := play3 (n := n) (m := n) (w := lw) (x := lx) (A := WA) (B := XB) (NA := NA) (XA := XA) (c := wc) (b := xb) (nc := nc) (xc := xc) (f := f) HOK.out HOK.out (by unfold NetD.same; exact decide_eq_true ⟨rfl, rfl, rfl, rfl⟩) HFW.out HFX.out hlw4 hlx4 g1 (by omega)
  obtain ⟨O, hO⟩ : ∃ O, (runD n (List.replicate sk 0)).outS (lw ++ lx) (lw ++ lx).length = O := ⟨_, rfl⟩
  obtain ⟨SS, hSS⟩ : ∃ SS, (runD n (List.replicate sk 0)).stS (lw ++ lx) (lw ++ lx).length = SS := ⟨_, rfl⟩
  have hop : openD n = runD n (List.replicate sk 0) := by rw [openD_run, HSK.out]; rfl
  rw [quiet hgd HFX.out] at eO
  have eO2 : playO (openD n) es = O := by
    rw [hes, eO, ← hO, List.length_append, hop, outS_right, step_run]
  have eE2 : playE (openD n) es = 0 := by rw [hes]; exact e0
  have HOS : Hid (O.length = bn + im) := by show _ = _; rw [← hO, outS_length _ (Nat.le_refl _), List.length_append, HLW.out, HLX.out]
  have CP : Hid (∀ w1 EA, Below w.heap.size w w1 → NetAt w1 n NA XA → EvsAt w1 EA es → Calls Try.prog 7 #[.agg (n.lst NA nc XA xc).toArray, .slice EA 3 3] w1 fun e w' => ∃ v, e = .returned v ∧ PlayR O w1 v w' ∧ Is3 v ∧ Below w1.heap.size w1 w') := fun w1 EA hb hn he => by
    have := st_Play n NA XA nc xc es EA 3 3 w1 hn HOK.out he (by rw [hes]; rfl) (by decide)
    unfold plD plO at this
    rw [eE2, if_pos rfl, if_pos rfl, eO2] at this
    refine this.mono ?_
    rintro e w' ⟨u, A, c, rfl, -, hf, hi, hb⟩
    exact ⟨_, rfl, ⟨u, A, c, rfl, hf, hi⟩, ⟨_, _, _, rfl⟩, hb⟩
  have hzs : n.state (List.replicate sk 0) = true := by
    have := zeros_state HOK.out
    rw [HSK.out] at this; exact this
  obtain ⟨ln, hln⟩ : ∃ k, (lw ++ lx).length = k := ⟨_, rfl⟩
  have HLN := Lib.hid hln
  have CR : Hid (∀ w1 q A c b, NetAt w1 n NA XA → Own b w1 (.slice (some ⟨q, 0, none⟩) sk sk) (List.replicate sk 0) → IntsF b w1 A (lw ++ lx) → Calls Try.prog 9 #[.agg (n.lst NA nc XA xc).toArray, .slice (some ⟨q, 0, none⟩) sk sk, .slice A ln c] w1 fun e w' => ∃ v, e = .returned v ∧ RunR O SS w1 v w' ∧ Is4 v ∧ Below w1.heap.size w1 w') := fun w1 q A c b hn ho hi => by
    have hfa : n.fit (lw ++ lx) = true := by
      unfold NetD.fit
      rw [List.all_append, show lw.all _ = true from HFW.out, show lx.all _ = true from HFX.out]; rfl
    refine (nw_Run n NA XA nc xc (List.replicate sk 0) (some ⟨q, 0, none⟩) sk sk (lw ++ lx) A ln c w1 hn HOK.out hzs List.length_replicate ho.intsF.1.1 hi.1 hfa hln (by rw [← hln, List.length_append, HLW.out, HLX.out]; omega)).mono ?_
    rw [← hln, hO, hSS]
    rintro e w' ⟨A', B', c', b', k, rfl, h1, h2, hb⟩
    exact ⟨_, rfl, ⟨A', B', c', b', k, rfl, h1, h2⟩, ⟨_, _, _, _, rfl⟩, hb⟩
  have CWi : Hid (∀ w1, Calls Try.prog 8 #[.int .i64 fd, .int .i64 20] w1 fun e w' => e = .returned (.int .i64 f) ∧ w1 = w') := fun w1 => by have := wd_Within fd 20 w1 (by decide); rw [HF.out] at this; exact this
  have HES := Lib.hid hes
  clear e0 eO eO2 eE2 hop hO hSS hgd hzs hes hf hln
  refine wp_region_grow4 16 (fun w3 => Below w2.heap.size w2 w3) (fun j x a b => Below a.heap.size a b ∧ plyG (PlayR O) j x a b) (fun a b => Below a.heap.size a b) (plyF w2 (PlayR O) (.agg (n.lst NA nc XA xc).toArray) (.slice WA lw.length wc) (.slice XB lx.length xb) fd f (evS WA lw wc) (evC n NA nc XA xc f) (evS XB lx xb)) (by kernel_rfl) (by kernel_rfl) (Below.drew (Below.refl _ _)) (fun j x a b h1 h2 => ⟨below_then h1 h2.1, fun i _ v => plyF_keep h2.1 i v, Below.refl _ _, fun w0 h => below_then h h2.1⟩) ?_ ?_
  · refine ⟨?_, ?_, ?_, ?_, ?_, ?_, ?_, ?_, ?_, ?_, ?_, ?_, ?_, ?_, ?_, ?_, trivial⟩
    all_goals
      intro vs w3 hp hF _
      have HP := Lib.hid hp
      have BN := Lib.hid (Box.keep BN2.out hp)
      clear hp
      simp [depsB, Region.binds, plyF] at hF
      simp [stL, depsB, Region.binds, Act.put, hF]
    · refine ld_netB1 BN.out rfl rfl _ rfl rfl ?_
      go_wp2_with fail
      exact ⟨rfl, Below.refl _ _, trivial⟩
    · go_wp2_with fail
      exact ⟨rfl, Below.refl _ _, trivial⟩
    · refine wp_bld rfl _ _ rfl _ rfl (built_evS WA lw.length wc) ?_
      go_wp2_with fail
      exact ⟨rfl, Below.refl _ _, trivial⟩
    · refine ld_netB1 BN.out rfl rfl _ rfl rfl ?_
      go_wp2_with fail
      exact ⟨rfl, Below.refl _ _, trivial⟩
    · go_wp2_with fail
      exact ⟨rfl, Below.refl _ _, trivial⟩
    · go_wp2_with fail
      refine (CWi.out _).mono ?_
      rintro e2 w4 ⟨rfl, rfl⟩
      go_wp2_with fail
      exact ⟨rfl, Below.refl _ _, trivial⟩
    · refine wp_bld rfl _ _ rfl _ rfl (built_evC n NA nc XA xc f) ?_
      go_wp2_with fail
      exact ⟨rfl, Below.refl _ _, trivial⟩
    · go_wp2_with fail
      exact ⟨rfl, Below.refl _ _, trivial⟩
    · refine wp_bld rfl _ _ rfl _ rfl (built_evS XB lx.length xb) ?_
      go_wp2_with fail
      exact ⟨rfl, Below.refl _ _, trivial⟩
    · refine wp_bldS rfl _ 40 3 _ rfl und_ev 15 size_ev (by decide) (by decide) _ rfl (built_ev3 (evS WA lw wc) (evC n NA nc XA xc f) (evS XB lx xb)) ?_
      go_wp2_with fail
      exact ⟨⟨_, rfl, evs3_at (evS_at (HIW.out.grow HP.out) (by omega)) (evC_at (HN2.out.grow HP.out)) (evS_at (HIX.out.grow HP.out) (by omega))⟩, (Below.refl _ _).alloc (Nat.le_refl _) _, trivial⟩
    · obtain ⟨e0, ⟨q, e9, hq⟩, -⟩ := hF
      rw [e9]
      go_wp2_with fail
      refine (CP.out w3 _ (below_then HW2.out HP.out) (HN2.out.grow HP.out) (by rw [HES.out]; exact hq)).mono ?_
      rintro e1 w4 ⟨v, rfl, hv, ht, hb3⟩
      go_wp2_with fail
      exact ⟨⟨⟨⟨w3, w4, HP.out, hv, Below.refl _ _⟩⟩, ht⟩, hv⟩
    · go_wp2_with fail
      exact ⟨hF.2, Below.refl _ _, trivial⟩
    all_goals first
      | (obtain ⟨x, y, z, e3⟩ := hF
         rw [e3]
         go_wp2_with fail
         exact ⟨trivial, Below.refl _ _, trivial⟩)
      | skip
    · go_wp2_with fail
      exact ⟨⟨_, rfl, Box.new rfl, HP.out.size⟩, (Below.refl _ _).alloc (Nat.le_refl _) _, rfl⟩
  intro vs w3 hp hF hPr hL
  obtain ⟨g4, wa, wb, e15, hg4, hgb, ⟨us, YA, yc, e10, hsf, hyf⟩, hbb, hor⟩ := box_done (B := w2) (R := PlayR O) (ic := 10) (ia := 15) (fun v w h => h.1) (fun v w h => h) (fun v a b h => h.2) (fun v a b h => ⟨h.2, h.1⟩) (hF 10 (by decide)) (hF 15 (by decide)) (hPr 10 15 (by decide) (by decide) (by decide))
  have e11 := lag_move (hL 11 _ (by decide) rfl) rfl rfl
  simp [stL, depsB, Region.binds, Act.put] at e11
  rw [e10] at e11
  have e12 := lag_extract (hL 12 _ (by decide) rfl) rfl rfl (show _ = Value.tuple #[.slice YA O.length yc, us.v, .int .i64 0] by simp [stL, depsB, Region.binds, Act.put]; exact e11.symm) rfl
  have e13 := lag_extract (hL 13 _ (by decide) rfl) rfl rfl (show _ = Value.tuple #[.slice YA O.length yc, us.v, .int .i64 0] by simp [stL, depsB, Region.binds, Act.put]; exact e11.symm) rfl
  have e14 := lag_extract (hL 14 _ (by decide) rfl) rfl rfl (show _ = Value.tuple #[.slice YA O.length yc, us.v, .int .i64 0] by simp [stL, depsB, Region.binds, Act.put]; exact e11.symm) rfl
  clear hF hPr hL
  simp [stL, Act.put, e12, e13, e14, e15]
  generalize vs 0 = x20
  generalize vs 1 = x21
  generalize vs 2 = x22
  generalize vs 3 = x23
  generalize vs 4 = x24
  generalize vs 5 = x25
  generalize vs 6 = x26
  generalize vs 7 = x27
  generalize vs 8 = x28
  generalize vs 9 = x29
  generalize vs 10 = x210
  generalize vs 11 = x211
  clear e10 e11 e12 e13 e14 e15
  go_upto_region 6 with (((with_reducible show wpList _ _ _ (Oper.mk _ (.store _ _ _) _ _ _ _ :: _) _ _); refine st_str hg4 rfl _ _ rfl rfl rfl ?_; intro W4 bg4 pg4))
  have HIY := Lib.hid (row_end hyf hbb hor pg4)
  have hb4 := put_facts hp hgb pg4
  have HW4 := Lib.hid (below_then HW2.out hb4)
  have BN4 := Lib.hid (Box.keep BN2.out hb4)
  have HN4 := Lib.hid (HN2.out.grow hb4)
  have HIW4 := Lib.hid (HIW.out.grow hb4)
  have HIX4 := Lib.hid (HIX.out.grow hb4)
  have hs24 : w2.heap.size ≤ W4.heap.size := hb4.size
  clear hp hg4 hgb hsf hyf hbb hor bg4 pg4 hb4 BN2 HN2 HIW HIX HW2 CP CWi
  have HL6 : Hid (([] : List Int).length + lw.length ≤ 100000000) := by show _ ≤ _; rw [HLW.out]; simp; omega
  have HL8 : Hid (lw.length + lx.length ≤ 100000000) := by show _ ≤ _; rw [HLW.out, HLX.out]; omega
  refine wp_region_grow6 15 (fun w3 => Below W4.heap.size W4 w3) (ruG sk) (fun _ _ => True) (ruK W4 (.agg (n.lst NA nc XA xc).toArray) (.slice WA lw.length wc) (.slice XB lx.length xb) g sk lw lx O SS) (ruV W4 sk lw) ruC (by kernel_rfl) (by kernel_rfl) (Below.drew (Below.refl _ _)) (consB_spec (by kernel_rfl))
    (fun j o vs vs' v a b ho h => ruG_local j (fun e => h 4 (by subst e; obtain rfl := Option.some.inj (show some _ = some o from ho); rfl)) (fun e => h 6 (by subst e; obtain rfl := Option.some.inj (show some _ = some o from ho); rfl)))
    (fun L j o vs x a b hj ho hC hK hP hdep hcl hLj hV hG => ru_stable L j vs x a b hC hK hP (fun e => hdep 4 (by subst e; obtain rfl := Option.some.inj (show some _ = some o from ho); rfl)) (fun e => hdep 6 (by subst e; obtain rfl := Option.some.inj (show some _ = some o from ho); rfl)) (fun h => hcl 6 _ rfl h 4 rfl) (fun h => hcl 8 _ rfl h 6 rfl) (fun h => hcl 9 _ rfl h 8 rfl) hLj hV hG) ?_ ?_
  · refine ⟨?_, ?_, ?_, ?_, ?_, ?_, ?_, ?_, ?_, ?_, ?_, ?_, ?_, ?_, ?_, trivial⟩
    all_goals
      intro vs w3 hp hF hV _
      have HP := Lib.hid hp
      have BN := Lib.hid (Box.keep BN4.out hp)
      have z8 : w3.cell? ⟨g, 8, none⟩ = some (.int .i64 n.st) := BN.out.2.1 8
      rw [HSK.out] at z8
      clear hp
      simp [depsB, Region.binds, ruK] at hF
      simp [depsB, Region.binds, ruV] at hV
      simp [stL, depsB, Region.binds, Act.put, hF]
    · refine ld_netB1 BN.out rfl rfl _ rfl rfl ?_
      go_wp2_with fail
      exact ⟨⟨rfl, trivial⟩, Below.refl _ _⟩
    · go_wp2_with fail
      exact ⟨⟨rfl, trivial⟩, Below.refl _ _⟩
    · go_wp2_with fail
      exact ⟨⟨rfl, trivial⟩, Below.refl _ _⟩
    · go_wp2_with (at_make; refine mk_int rfl _ _ rfl W4.heap.size sk rfl rfl rfl (by omega) HP.out.size ?_; intro w4 ho4 hb4)
      exact ⟨⟨⟨_, rfl, HP.out.size, ho4.block.2⟩, ho4⟩, hb4, rfl⟩
    · go_wp2_with fail
      exact ⟨⟨⟨_, rfl, HP.out.size, by simp⟩, (emp1).base HP.out.size⟩, (Below.refl _ _).alloc (Nat.le_refl _) _, rfl⟩
    · go_wp2_with fail
      exact ⟨⟨rfl, trivial⟩, Below.refl _ _⟩
    · obtain ⟨⟨q4, e4, b4, s4⟩, e5⟩ := hF
      have e4' : (vs 4).ownBlock = some q4 := by rw [e4]; rfl
      refine app_ints _ rfl _ _ rfl W4.heap.size (v := vs 4) (l := []) (m := lw) (A := WA) (c := wc) rfl rfl hV (HIW4.out.grow HP.out) HL6.out HP.out.size ?_
      intro v6 w6 ho6 hg6 hv6
      have hk6 : ruK W4 (.agg (n.lst NA nc XA xc).toArray) (.slice WA lw.length wc) (.slice XB lx.length xb) g sk lw lx O SS 6 v6 w6 := by
        obtain ⟨A6, c6, e6, -, -⟩ := ho6.form
        exact ⟨⟨A6, c6, e6⟩, fun q hq => ho6.1.lt q hq⟩
      have hg6' : ruG sk 6 vs v6 w3 w6 := ⟨hg6, fun q hq => by rcases hv6 with h | h; exact .inr (h.symm.trans hq); exact .inl (by rw [hq] at h; injection h)⟩
      have ho6' : ruV W4 sk lw 6 v6 w6 := ho6
      go_wp2_with fail
      all_goals first | exact ⟨⟨hk6, ho6'⟩, hg6'⟩ | trivial
    · go_wp2_with fail
      exact ⟨⟨rfl, trivial⟩, Below.refl _ _⟩
    · obtain ⟨⟨⟨A6, c6, e6⟩, hb6⟩, e7⟩ := hF
      refine app_ints _ rfl _ _ rfl W4.heap.size (v := vs 6) (l := lw) (m := lx) (A := XB) (c := xb) rfl rfl hV (HIX4.out.grow HP.out) HL8.out HP.out.size ?_
      intro v8 w8 ho8 hg8 hv8
      have hk8 : ruK W4 (.agg (n.lst NA nc XA xc).toArray) (.slice WA lw.length wc) (.slice XB lx.length xb) g sk lw lx O SS 8 v8 w8 := by
        obtain ⟨A8, c8, rfl, -, -⟩ := ho8.form
        exact ⟨A8, c8, rfl, IntsF.own ho8⟩
      have hg8' : ruG sk 8 vs v8 w3 w8 := hg8
      go_wp2_with fail
      all_goals first | exact ⟨⟨hk8, trivial⟩, hg8'⟩ | trivial
    · obtain ⟨e0, ⟨q3, e3, b3, s3⟩, A8, c8, e8, hi8⟩ := hF
      rw [e3] at hV
      rw [HLN.out] at e8
      rw [e3, e8]
      go_wp2_with fail
      (with_reducible refine (CR.out w3 q3 A8 c8 _ (HN4.out.grow HP.out) hV hi8).mono ?_)
      rintro e1 w4 ⟨v, rfl, hv, ht, hb3⟩
      have hk9 : ruK W4 (.agg (n.lst NA nc XA xc).toArray) (.slice WA lw.length wc) (.slice XB lx.length xb) g sk lw lx O SS 9 v w4 := ⟨⟨⟨w3, w4, HP.out, hv, Below.refl _ _⟩⟩, ht⟩
      have hg9 : ruG sk 9 vs v w3 w4 := hb3
      go_wp2_with fail
      all_goals first | exact ⟨⟨hk9, trivial⟩, hg9⟩ | trivial
    · go_wp2_with fail
      exact ⟨⟨hF.2, trivial⟩, Below.refl _ _⟩
    all_goals
      obtain ⟨x, y, z, t, e3⟩ := hF
      rw [e3]
      go_wp2_with fail
      exact ⟨⟨trivial, trivial⟩, Below.refl _ _⟩
  intro vs w3 hp hF hV hPr hL
  obtain ⟨⟨⟨w5, w6, -, ⟨ZA, TB, zc, tb, kk, e9, hz, ht⟩, hb6⟩⟩, -⟩ := hF 9 (by decide)
  have e10 := lag_move (hL 10 _ (by decide) rfl) rfl rfl
  simp [stL, depsB, Region.binds, Act.put] at e10
  rw [e9] at e10
  have e11 := lag_extract (hL 11 _ (by decide) rfl) rfl rfl (show _ = Value.tuple #[.slice ZA O.length zc, .slice TB SS.length tb, .int .i64 kk, .int .i64 0] by simp [stL, depsB, Region.binds, Act.put]; exact e10.symm) rfl
  have e12 := lag_extract (hL 12 _ (by decide) rfl) rfl rfl (show _ = Value.tuple #[.slice ZA O.length zc, .slice TB SS.length tb, .int .i64 kk, .int .i64 0] by simp [stL, depsB, Region.binds, Act.put]; exact e10.symm) rfl
  have e13 := lag_extract (hL 13 _ (by decide) rfl) rfl rfl (show _ = Value.tuple #[.slice ZA O.length zc, .slice TB SS.length tb, .int .i64 kk, .int .i64 0] by simp [stL, depsB, Region.binds, Act.put]; exact e10.symm) rfl
  have e14 := lag_extract (hL 14 _ (by decide) rfl) rfl rfl (show _ = Value.tuple #[.slice ZA O.length zc, .slice TB SS.length tb, .int .i64 kk, .int .i64 0] by simp [stL, depsB, Region.binds, Act.put]; exact e10.symm) rfl
  clear hF hV hPr hL
  simp [stL, Act.put, e11, e12, e13, e14]
  generalize vs 0 = x30
  generalize vs 1 = x31
  generalize vs 2 = x32
  generalize vs 3 = x33
  generalize vs 4 = x34
  generalize vs 5 = x35
  generalize vs 6 = x36
  generalize vs 7 = x37
  generalize vs 8 = x38
  generalize vs 9 = x39
  generalize vs 10 = x310
  have HZI := Lib.hid (hz.1.grow hb6)
  have HYI := Lib.hid (HIY.out.grow hp)
  have HW6 := Lib.hid (below_then HW4.out hp)
  have BN6 := Lib.hid (Box.keep BN4.out hp)
  have HN6 := Lib.hid (HN4.out.grow hp)
  clear e9 e10 e11 e12 e13 e14 hz ht hb6 hp BN4 HN4 HIW4 HIX4 HIY HW4
  have hol : O.length ≤ 1000000 := by have := HOS.out; omega
  have CI : Hid (∀ w1, Below w3.heap.size w3 w1 → Calls Try.prog 10 #[.slice YA O.length yc, .slice ZA O.length zc] w1 fun e1 w' => e1 = .returned (.bool true) ∧ Below w1.heap.size w1 w') := fun w1 hb => rf_SameN YA ZA O O yc zc _ _ w1 rfl rfl hol rfl (HYI.out.grow hb) (HZI.out.grow hb)
  have CV : Hid (∀ w1, Below w3.heap.size w3 w1 → Calls Try.prog 11 #[.agg (n.lst NA nc XA xc).toArray] w1 fun e1 w' => e1 = .returned (.bool true) ∧ Below w1.heap.size w1 w') := fun w1 hb => by
    have h := HN6.out.grow hb
    have := r22_Valid n.d0 n.d1 n.d2 n.d3 n.c0 n.c1 n.c2 n.c3 n.st n.out NA XA nc xc n.ns n.nx w1 h.nodes h.next h.n1 h.n2 h.n3 h.st
    rw [show netB _ _ _ _ _ _ _ _ _ _ _ _ = true from HOK.out] at this; exact this
  go_upto_region 7 with fail
  go_wp2_with (first
    | (go_at_call 4; (with_reducible refine (known42 _).mono ?_); rintro e1 w7 ⟨rfl, hb7⟩)
    | (go_at_call 10; (with_reducible refine (CI.out _ hb7).mono ?_); rintro e1 w8 ⟨rfl, hb8⟩; have hb78 := below_then hb7 hb8; have bn8 := Box.keep BN6.out hb78)
    | ((with_reducible show wpList _ _ _ (Oper.mk _ (.load _ _) _ _ _ _ :: _) _ _); refine ld_netW bn8 rfl rfl _ rfl rfl ?_)
    | (go_at_call 11; (with_reducible refine (CV.out _ hb78).mono ?_); rintro e1 w9 ⟨rfl, hb9⟩; have hb79 := below_then hb78 hb9))
  go_ret
  exact ⟨rfl, below_then HW6.out hb79⟩
end Go.Proofs.Ytlbighjggbaejaa
