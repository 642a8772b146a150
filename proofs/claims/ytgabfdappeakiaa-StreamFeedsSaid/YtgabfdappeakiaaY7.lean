/- The walk of the law StreamKeepsQuiet. -/
import Derived.Test.YtgabfdappeakiaaY6
set_option linter.unusedVariables false
set_option linter.unusedSimpArgs false
namespace Go.Proofs.Ytgabfdappeakiaa
open Go.RowKit

/-- A slice of three events. -/
def IsEvs (es : List EvA) (v : Value) (w : World) : Prop := ∃ q, v = .slice (some ⟨q, 0, none⟩) 3 3 ∧ EvsAt w (some ⟨q, 0, none⟩) es
/-- What Play hands back where all goes well. -/
def PlayR (O : List Int) (w1 : World) (v : Value) (w2 : World) : Prop := ∃ (u : StrA) (A : Option Addr) (c : Nat), v = .tuple #[.slice A O.length c, u.v, .int .i64 0] ∧ StrF w1.heap.size w2 u ∧ IntsF w1.heap.size w2 A O
/-- What Run hands back. -/
def RunR (O S : List Int) (w1 : World) (v : Value) (w2 : World) : Prop := ∃ (A B : Option Addr) (c b : Nat) (k : Int), v = .tuple #[.slice A O.length c, .slice B S.length b, .int .i64 k, .int .i64 0] ∧ IntsF w1.heap.size w2 A O ∧ IntsF w1.heap.size w2 B S
def plyF (W : World) (R : World → Value → World → Prop) (nv wv xv : Value) (fd f : Int) (e1 e2 e3 : EvA) : Nat → Value → World → Prop
  | 0, v, _ => v = nv | 1, v, _ => v = wv | 2, v, _ => v = e1.v | 3, v, _ => v = nv | 4, v, _ => v = .int .i64 fd | 5, v, _ => v = .int .i64 f | 6, v, _ => v = e2.v | 7, v, _ => v = xv | 8, v, _ => v = e3.v
  | 9, v, w => IsEvs [e1, e2, e3] v w
  | 10, v, w => CallF W R v w ∧ Is3 v
  | 11, v, _ => Is3 v
  | 15, v, w => NewF W v w
  | _, _, _ => True
def plyG (R : World → Value → World → Prop) : Nat → Value → World → World → Prop
  | 10, v, a, b => R a v b
  | 15, v, a, _ => v = .pointer (some ⟨a.heap.size, 0, none⟩)
  | _, _, _, _ => True
theorem plyF_keep {W : World} {R : World → Value → World → Prop} {nv wv xv : Value} {fd f : Int} {e1 e2 e3 : EvA} {a b : World} (h : Below a.heap.size a b) : ∀ i v, plyF W R nv wv xv fd f e1 e2 e3 i v a → plyF W R nv wv xv fd f e1 e2 e3 i v b
  | 0, _, e => e | 1, _, e => e | 2, _, e => e | 3, _, e => e | 4, _, e => e | 5, _, e => e | 6, _, e => e | 7, _, e => e | 8, _, e => e | 11, _, e => e
  | 9, _, ⟨q, e, he⟩ => ⟨q, e, he.grow h⟩
  | 10, _, ⟨hc, h3⟩ => ⟨hc.keep h, h3⟩
  | 15, _, hn => NewF.keep hn h
  | 12, _, _ => trivial | 13, _, _ => trivial | 14, _, _ => trivial | _ + 16, _, _ => trivial
/-- The region with Run: what lasts; what lasts for a while; who ends it; what is new. -/
def ruK (W : World) (nv wv xv : Value) (g sk : Nat) (lw lx O S : List Int) : Nat → Value → World → Prop
  | 0, v, _ => v = nv | 1, v, _ => v = .pointer (some ⟨g, 8, none⟩) | 2, v, _ => v = .int .i64 sk
  | 3, v, w => ∃ q, v = .slice (some ⟨q, 0, none⟩) sk sk ∧ W.heap.size ≤ q ∧ q < w.heap.size
  | 4, v, w => ∃ q, v = .slice (some ⟨q, 0, none⟩) 0 0 ∧ W.heap.size ≤ q ∧ q < w.heap.size
  | 5, v, _ => v = wv
  | 6, v, w => (∃ A c, v = .slice A lw.length c) ∧ ∀ q, v.ownBlock = some q → W.heap.size ≤ q ∧ q < w.heap.size
  | 7, v, _ => v = xv
  | 8, v, w => IsIntsF W.heap.size (lw ++ lx) v w
  | 9, v, w => CallF W (RunR O S) v w ∧ Is4 v
  | 10, v, _ => Is4 v
  | _, _, _ => True
def ruV (W : World) (sk : Nat) (lw : List Int) : Nat → Value → World → Prop
  | 3, v, w => Own W.heap.size w v (List.replicate sk 0)
  | 4, v, w => Own W.heap.size w v []
  | 6, v, w => Own W.heap.size w v lw
  | _, _, _ => True
def ruC : Nat → Option Nat
  | 3 => some 9 | 4 => some 6 | 6 => some 8 | _ => none
def ruG (sk : Nat) : Nat → (Nat → Value) → Value → World → World → Prop
  | 3, _, x, a, b => Below a.heap.size a b ∧ x = .slice (some ⟨a.heap.size, 0, none⟩) sk sk
  | 4, _, x, a, b => Below a.heap.size a b ∧ x = .slice (some ⟨a.heap.size, 0, none⟩) 0 0
  | 6, vs, x, a, b => a.grownBy b (vs 4).ownBlock ∧ ∀ q, x.ownBlock = some q → q = a.heap.size ∨ (vs 4).ownBlock = some q
  | 8, vs, _, a, b => a.grownBy b (vs 6).ownBlock
  | _, _, _, a, b => Below a.heap.size a b
theorem ruG_below {sk : Nat} {vs : Nat → Value} {x : Value} {a b : World} : ∀ j, j ≠ 6 → j ≠ 8 → ruG sk j vs x a b → Below a.heap.size a b
  | 0, _, _, h => h | 1, _, _, h => h | 2, _, _, h => h | 3, _, _, h => h.1 | 4, _, _, h => h.1 | 5, _, _, h => h | 7, _, _, h => h
  | 6, h, _, _ => absurd rfl h
  | 8, _, h, _ => absurd rfl h
  | _ + 9, _, _, h => h
theorem ruG_local {sk : Nat} {vs vs' : Nat → Value} {x : Value} {a b : World} : ∀ j, (j = 6 → vs 4 = vs' 4) → (j = 8 → vs 6 = vs' 6) → ruG sk j vs x a b → ruG sk j vs' x a b
  | 0, _, _, h => h | 1, _, _, h => h | 2, _, _, h => h | 3, _, _, h => h | 4, _, _, h => h | 5, _, _, h => h | 7, _, _, h => h
  | 6, e, _, h => by
    have h : a.grownBy b (vs 4).ownBlock ∧ ∀ q, x.ownBlock = some q → q = a.heap.size ∨ (vs 4).ownBlock = some q := h
    rw [e rfl] at h; exact h
  | 8, _, e, h => by
    have h : a.grownBy b (vs 6).ownBlock := h
    rw [e rfl] at h; exact h
  | _ + 9, _, _, h => h
theorem ruK_size {W : World} {nv wv xv : Value} {g sk : Nat} {lw lx O S : List Int} {a b : World} (h : a.heap.size ≤ b.heap.size) : ∀ i v, i ≠ 8 → i ≠ 9 → ruK W nv wv xv g sk lw lx O S i v a → ruK W nv wv xv g sk lw lx O S i v b
  | 0, _, _, _, e => e | 1, _, _, _, e => e | 2, _, _, _, e => e | 5, _, _, _, e => e | 7, _, _, _, e => e | 10, _, _, _, e => e
  | 3, _, _, _, ⟨q, e, h1, h2⟩ => ⟨q, e, h1, Nat.lt_of_lt_of_le h2 h⟩
  | 4, _, _, _, ⟨q, e, h1, h2⟩ => ⟨q, e, h1, Nat.lt_of_lt_of_le h2 h⟩
  | 6, _, _, _, ⟨e, h1⟩ => ⟨e, fun q hq => ⟨(h1 q hq).1, Nat.lt_of_lt_of_le (h1 q hq).2 h⟩⟩
  | 8, _, h8, _, _ => absurd rfl h8
  | 9, _, _, h9, _ => absurd rfl h9
  | _ + 11, _, _, _, _ => trivial
theorem ruK_keep {W : World} {nv wv xv : Value} {g sk : Nat} {lw lx O S : List Int} {a b : World} (h : Below a.heap.size a b) (i : Nat) (v : Value) (hk : ruK W nv wv xv g sk lw lx O S i v a) : ruK W nv wv xv g sk lw lx O S i v b := by
  by_cases h8 : i = 8
  · subst h8
    obtain ⟨A, c, e, hi⟩ := hk
    exact ⟨A, c, e, hi.grow h⟩
  · by_cases h9 : i = 9
    · subst h9
      exact ⟨hk.1.keep h, hk.2⟩
    · exact ruK_size h.size i v h8 h9 hk
theorem ruV_keep {W : World} {sk : Nat} {lw : List Int} {a b : World} (h : Below a.heap.size a b) : ∀ i v, ruV W sk lw i v a → ruV W sk lw i v b
  | 3, _, ho => ho.grow h | 4, _, ho => ho.grow h | 6, _, ho => ho.grow h
  | 0, _, _ => trivial | 1, _, _ => trivial | 2, _, _ => trivial | 5, _, _ => trivial | _ + 7, _, _ => trivial
/-- The row of zeros lies in a block of its own. -/
theorem ru_34 {W w : World} {nv wv xv : Value} {g sk : Nat} {lw lx O S : List Int} {vs : Nat → Value} {q3 q4 : Nat} (e3 : vs 3 = .slice (some ⟨q3, 0, none⟩) sk sk) (e4 : vs 4 = .slice (some ⟨q4, 0, none⟩) 0 0)
    (hP : Prior5 (ruK W nv wv xv g sk lw lx O S) (ruG sk) (fun _ _ => True) 3 4 vs w ∨ Prior5 (ruK W nv wv xv g sk lw lx O S) (ruG sk) (fun _ _ => True) 4 3 vs w) : q3 ≠ q4 := by
  rcases hP with ⟨w1, w2, ⟨q, e, -, h1⟩, ⟨-, h2⟩, -⟩ | ⟨w1, w2, ⟨q, e, -, h1⟩, ⟨-, h2⟩, -⟩
  · rw [e3] at e; rw [e4] at h2
    injection e with e; injection e with e; injection e with e
    injection h2 with h2; injection h2 with h2; injection h2 with h2
    omega
  · rw [e4] at e; rw [e3] at h2
    injection e with e; injection e with e; injection e with e
    injection h2 with h2; injection h2 with h2; injection h2 with h2
    omega
theorem ru_36 {W w : World} {nv wv xv : Value} {g sk : Nat} {lw lx O S : List Int} {vs : Nat → Value} {q3 q4 q6 : Nat} (e3 : vs 3 = .slice (some ⟨q3, 0, none⟩) sk sk) (e4 : vs 4 = .slice (some ⟨q4, 0, none⟩) 0 0) (e6 : (vs 6).ownBlock = some q6) (h34 : q3 ≠ q4)
    (hP : Prior5 (ruK W nv wv xv g sk lw lx O S) (ruG sk) (fun _ _ => True) 3 6 vs w ∨ Prior5 (ruK W nv wv xv g sk lw lx O S) (ruG sk) (fun _ _ => True) 6 3 vs w) : q3 ≠ q6 := by
  rcases hP with ⟨w1, w2, ⟨q, e, -, h1⟩, ⟨-, h2⟩, -⟩ | ⟨w1, w2, ⟨-, h1⟩, ⟨-, h2⟩, -⟩
  · rw [e3] at e
    injection e with e; injection e with e; injection e with e
    rcases h2 q6 e6 with h2 | h2
    · omega
    · rw [e4] at h2
      have h2 : some q4 = some q6 := h2
      injection h2 with h2
      omega
  · have := (h1 q6 e6).2
    rw [e3] at h2
    injection h2 with h2; injection h2 with h2; injection h2 with h2
    omega
theorem ru_stable {W : World} {nv wv xv : Value} {g sk : Nat} {lw lx O S : List Int} (L : Nat → Bool) (j : Nat) (vs : Nat → Value) (x : Value) (w w' : World) (hC : Below W.heap.size W w)
    (hK : ∀ i, i < 15 → L i = true → ruK W nv wv xv g sk lw lx O S i (vs i) w)
    (hP : ∀ i i', i < 15 → i' < 15 → i ≠ i' → L i = true → L i' = true → Prior5 (ruK W nv wv xv g sk lw lx O S) (ruG sk) (fun _ _ => True) i i' vs w ∨ Prior5 (ruK W nv wv xv g sk lw lx O S) (ruG sk) (fun _ _ => True) i' i vs w)
    (d6 : j = 6 → L 4 = true) (d8 : j = 8 → L 6 = true) (c64 : L 6 = true → L 4 = true) (c86 : L 8 = true → L 6 = true) (c98 : L 9 = true → L 8 = true) (hLj : L j = false)
    (hV : ∀ i, i < 15 → L i = true → (∀ c, ruC i = some c → L c = false) → ruV W sk lw i (vs i) w) (hG : ruG sk j vs x w w') :
    Below W.heap.size W w' ∧ (∀ i, i < 15 → L i = true → ruK W nv wv xv g sk lw lx O S i (vs i) w') ∧ (∀ i, i < 15 → L i = true → (∀ c, ruC i = some c → L c = false ∧ c ≠ j) → ruV W sk lw i (vs i) w') ∧ True ∧ ∀ w0 : World, True → True := by
  by_cases h6 : j = 6
  · subst h6
    have l4 := d6 rfl
    have l8 : L 8 = false := by cases h : L 8 with | false => rfl | true => rw [c86 h] at hLj; cases hLj
    have l9 : L 9 = false := by cases h : L 9 with | false => rfl | true => rw [c98 h] at l8; cases l8
    obtain ⟨q4, e4, b4, s4⟩ := hK 4 (by decide) l4
    obtain ⟨hg, -⟩ := hG
    have ho : (vs 4).ownBlock = some q4 := by rw [e4]; rfl
    rw [ho] at hg
    refine ⟨hC.grown hg hC.size (fun k hk => by injection hk with hk; omega), fun i hi hl => ?_, fun i hi hl hc => ?_, trivial, fun _ _ => trivial⟩
    · exact ruK_size hg.size i _ (fun e => by subst e; rw [l8] at hl; cases hl) (fun e => by subst e; rw [l9] at hl; cases hl) (hK i hi hl)
    · match i, hl, hc with
      | 3, hl, hc =>
        obtain ⟨q3, e3, b3, s3⟩ := hK 3 (by decide) hl
        have hne := ru_34 e3 e4 (hP 3 4 (by decide) (by decide) (by decide) hl l4)
        have hv : Own W.heap.size w (vs 3) (List.replicate sk 0) := hV 3 (by decide) hl (fun c e => (hc c e).1)
        show Own W.heap.size w' (vs 3) (List.replicate sk 0)
        rw [e3] at hv ⊢
        exact hv.kept_at hg hne
      | 4, hl, hc => exact absurd rfl (hc 6 rfl).2
      | 6, hl, hc => rw [hLj] at hl; cases hl
      | 0, _, _ => trivial | 1, _, _ => trivial | 2, _, _ => trivial | 5, _, _ => trivial
      | n + 7, _, _ => exact trivial
  · by_cases h8 : j = 8
    · subst h8
      have l6 := d8 rfl
      have l4 := c64 l6
      have l9 : L 9 = false := by cases h : L 9 with | false => rfl | true => rw [c98 h] at hLj; cases hLj
      obtain ⟨-, hb6⟩ := hK 6 (by decide) l6
      have hg : w.grownBy w' (vs 6).ownBlock := hG
      refine ⟨hC.grown hg hC.size (fun k hk => (hb6 k hk).1), fun i hi hl => ?_, fun i hi hl hc => ?_, trivial, fun _ _ => trivial⟩
      · exact ruK_size hg.size i _ (fun e => by subst e; rw [hLj] at hl; cases hl) (fun e => by subst e; rw [l9] at hl; cases hl) (hK i hi hl)
      · match i, hl, hc with
        | 3, hl, hc =>
          obtain ⟨q3, e3, b3, s3⟩ := hK 3 (by decide) hl
          obtain ⟨q4, e4, b4, s4⟩ := hK 4 (by decide) l4
          have hne := ru_34 e3 e4 (hP 3 4 (by decide) (by decide) (by decide) hl l4)
          have hv : Own W.heap.size w (vs 3) (List.replicate sk 0) := hV 3 (by decide) hl (fun c e => (hc c e).1)
          show Own W.heap.size w' (vs 3) (List.replicate sk 0)
          refine ⟨hv.1.kept hg (.inr (fun e => ?_)), hv.2⟩
          rw [e3] at e
          have e : some q3 = (vs 6).ownBlock := e
          exact ru_36 e3 e4 e.symm hne (hP 3 6 (by decide) (by decide) (by decide) hl l6) rfl
        | 4, hl, hc => exact absurd (hc 6 rfl).1 (by rw [l6]; decide)
        | 6, hl, hc => exact absurd rfl (hc 8 rfl).2
        | 0, _, _ => trivial | 1, _, _ => trivial | 2, _, _ => trivial | 5, _, _ => trivial
        | n + 7, _, _ => exact trivial
    · have hb := ruG_below j h6 h8 hG
      exact ⟨below_then hC hb, fun i hi hl => ruK_keep hb i _ (hK i hi hl), fun i hi hl hc => ruV_keep hb i _ (hV i hi hl (fun c e => (hc c e).1)), trivial, fun _ _ => trivial⟩
/-- Whose value is taken by whom: looked at in the region's own list. -/
def consB (N : Nat) (l : List Oper) (cons : Nat → Option Nat) : Bool := (List.range N).all fun k => match l[k]? with | none => true | some o => o.after.toList.all fun e => !Region.binds .any e || (cons e.on == none || cons e.on == some k)
theorem consB_spec {N : Nat} {l : List Oper} {cons : Nat → Option Nat} (h : consB N l cons = true) : ∀ (k : Nat) o, l[k]? = some o → ∀ i, depsB .any o i = true → k < N → cons i = none ∨ cons i = some k := fun k o ho i hi hk => by
  have h1 := List.all_eq_true.1 h k (List.mem_range.2 hk)
  rw [ho] at h1
  obtain ⟨e, he, hb, rfl⟩ := depsB_mem hi
  have h2 := List.all_eq_true.1 h1 e (by simpa using he)
  simpa [hb] using h2
end Go.Proofs.Ytgabfdappeakiaa
