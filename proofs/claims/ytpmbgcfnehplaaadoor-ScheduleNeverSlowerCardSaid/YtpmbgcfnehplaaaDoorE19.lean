/- Greedy of the reference of layer 40. Printed by gen_e19.py. -/
import Derived.Test.YtpmbgcfnehplaaaDoorE18
import Derived.Test.YtpmbgcfnehplaaaDoorPu
set_option linter.unusedVariables false
set_option linter.unusedSimpArgs false
namespace Go.Proofs.YtpmbgcfnehplaaaDoor
open Go.RowKit

def lenOf : Value → Nat
  | .slice _ n _ => n
  | _ => 0
/-- What the operations of the region yield that tries an instruction: o the order so far, i the instruction. -/
def gyK (W : World) (ov av : Value) (j : Int) (pv : Value) (i : Ins) (o : List Ins) (cy st er : Int) : Nat → Value → World → Prop
  | 0, v, w => ∃ q, v = .slice (some ⟨q, 0, none⟩) 0 0 ∧ W.heap.size ≤ q ∧ q < w.heap.size
  | 1, v, _ => v = ov
  | 2, v, w => (∃ A c, v = .slice A o.length c) ∧ ∀ q, v.ownBlock = some q → W.heap.size ≤ q ∧ q < w.heap.size
  | 3, v, _ => v = av | 4, v, _ => v = .int .i64 j | 5, v, _ => v = pv | 6, v, _ => v = i.v
  | 7, v, w => ∃ q, v = .slice (some ⟨q, 0, none⟩) 1 1 ∧ W.heap.size ≤ q ∧ q < w.heap.size
  | 8, v, w => ∃ A c, v = .slice A (o.length + 1) c ∧ InsAt w A (o ++ [i])
  | 9, v, _ => v = .tuple #[.int .i64 cy, .int .i64 st, .int .i64 er]
  | 10, v, _ => v = .tuple #[.int .i64 cy, .int .i64 st, .int .i64 er]
  | 11, v, _ => v = .int .i64 cy | 12, v, _ => v = .int .i64 st | 13, v, _ => v = .int .i64 er
  | 14, v, _ => v = .int .i64 cy
  | _, _, _ => True
def gyV (W : World) (i : Ins) (o : List Ins) : Nat → Value → World → Prop
  | 0, v, w => OwnIR W.heap.size w v []
  | 2, v, w => OwnIR W.heap.size w v o
  | 7, v, w => ∃ q, v = .slice (some ⟨q, 0, none⟩) 1 1 ∧ InsAt w (some ⟨q, 0, none⟩) [i]
  | _, _, _ => True
def gyC : Nat → Option Nat
  | 0 => some 2 | 2 => some 8 | 7 => some 8 | _ => none
def gyG : Nat → (Nat → Value) → Value → World → World → Prop
  | 0, _, x, a, b => Below a.heap.size a b ∧ x = .slice (some ⟨a.heap.size, 0, none⟩) 0 0
  | 2, vs, _, a, b => a.grownBy b (vs 0).ownBlock
  | 7, _, x, a, b => Below a.heap.size a b ∧ x = .slice (some ⟨a.heap.size, 0, none⟩) 1 1
  | 8, vs, _, a, b => a.grownBy b (vs 2).ownBlock
  | _, _, _, a, b => Below a.heap.size a b
theorem gyG_below {vs : Nat → Value} {x : Value} {a b : World} : ∀ j, j ≠ 2 → j ≠ 8 → gyG j vs x a b → Below a.heap.size a b
  | 0, _, _, h => h.1 | 1, _, _, h => h | 3, _, _, h => h | 4, _, _, h => h | 5, _, _, h => h | 6, _, _, h => h | 7, _, _, h => h.1
  | 2, h, _, _ => absurd rfl h
  | 8, _, h, _ => absurd rfl h
  | _ + 9, _, _, h => h
theorem gyG_local {vs vs' : Nat → Value} {x : Value} {a b : World} : ∀ j, (j = 2 → vs 0 = vs' 0) → (j = 8 → vs 2 = vs' 2) → gyG j vs x a b → gyG j vs' x a b
  | 0, _, _, h => h | 1, _, _, h => h | 3, _, _, h => h | 4, _, _, h => h | 5, _, _, h => h | 6, _, _, h => h | 7, _, _, h => h
  | 2, e, _, h => by
    have h : a.grownBy b (vs 0).ownBlock := h
    rw [e rfl] at h; exact h
  | 8, _, e, h => by
    have h : a.grownBy b (vs 2).ownBlock := h
    rw [e rfl] at h; exact h
  | _ + 9, _, _, h => h
theorem gyK_size {W : World} {ov av pv : Value} {j : Int} {i : Ins} {o : List Ins} {cy st er : Int} {a b : World} (h : a.heap.size ≤ b.heap.size) : ∀ k v, k ≠ 8 → gyK W ov av j pv i o cy st er k v a → gyK W ov av j pv i o cy st er k v b
  | 1, _, _, e => e | 3, _, _, e => e | 4, _, _, e => e | 5, _, _, e => e | 6, _, _, e => e | 9, _, _, e => e | 10, _, _, e => e | 11, _, _, e => e | 12, _, _, e => e | 13, _, _, e => e | 14, _, _, e => e
  | 0, _, _, ⟨q, e, h1, h2⟩ => ⟨q, e, h1, Nat.lt_of_lt_of_le h2 h⟩
  | 7, _, _, ⟨q, e, h1, h2⟩ => ⟨q, e, h1, Nat.lt_of_lt_of_le h2 h⟩
  | 2, _, _, ⟨e, h1⟩ => ⟨e, fun q hq => ⟨(h1 q hq).1, Nat.lt_of_lt_of_le (h1 q hq).2 h⟩⟩
  | 8, _, h8, _ => absurd rfl h8
  | _ + 15, _, _, _ => trivial
theorem gyK_keep {W : World} {ov av pv : Value} {j : Int} {i : Ins} {o : List Ins} {cy st er : Int} {a b : World} (h : Below a.heap.size a b) (k : Nat) (v : Value) (hk : gyK W ov av j pv i o cy st er k v a) : gyK W ov av j pv i o cy st er k v b := by
  by_cases h8 : k = 8
  · subst h8
    obtain ⟨A, c, e, hi⟩ := hk
    exact ⟨A, c, e, hi.grow h⟩
  · exact gyK_size h.size k v h8 hk
theorem gyV_keep {W : World} {i : Ins} {o : List Ins} {a b : World} (h : Below a.heap.size a b) : ∀ k v, gyV W i o k v a → gyV W i o k v b
  | 0, _, ho => ho.grow h | 2, _, ho => ho.grow h
  | 7, _, ⟨q, e, hi⟩ => ⟨q, e, hi.grow h⟩
  | 1, _, _ => trivial | 3, _, _ => trivial | 4, _, _ => trivial | 5, _, _ => trivial | 6, _, _ => trivial | _ + 8, _, _ => trivial
theorem gy_07 {W w : World} {ov av pv : Value} {j : Int} {i : Ins} {o : List Ins} {cy st er : Int} {vs : Nat → Value} {q0 q7 : Nat} (e0 : vs 0 = .slice (some ⟨q0, 0, none⟩) 0 0) (e7 : vs 7 = .slice (some ⟨q7, 0, none⟩) 1 1)
    (hP : Prior5 (gyK W ov av j pv i o cy st er) gyG (fun _ _ => True) 0 7 vs w ∨ Prior5 (gyK W ov av j pv i o cy st er) gyG (fun _ _ => True) 7 0 vs w) : q0 ≠ q7 := by
  rcases hP with ⟨w1, w2, ⟨q, e, -, h1⟩, ⟨-, h2⟩, -⟩ | ⟨w1, w2, ⟨q, e, -, h1⟩, ⟨-, h2⟩, -⟩
  · rw [e0] at e; rw [e7] at h2
    injection e with e; injection e with e; injection e with e
    injection h2 with h2; injection h2 with h2; injection h2 with h2
    omega
  · rw [e7] at e; rw [e0] at h2
    injection e with e; injection e with e; injection e with e
    injection h2 with h2; injection h2 with h2; injection h2 with h2
    omega
theorem gy_stable {W : World} {ov av pv : Value} {jj : Int} {i : Ins} {o : List Ins} {cy st er : Int} (L : Nat → Bool) (j : Nat) (vs : Nat → Value) (x : Value) (w w' : World) (hC : Below W.heap.size W w)
    (hK : ∀ k, k < 17 → L k = true → gyK W ov av jj pv i o cy st er k (vs k) w)
    (hP : ∀ k k', k < 17 → k' < 17 → k ≠ k' → L k = true → L k' = true → Prior5 (gyK W ov av jj pv i o cy st er) gyG (fun _ _ => True) k k' vs w ∨ Prior5 (gyK W ov av jj pv i o cy st er) gyG (fun _ _ => True) k' k vs w)
    (hd2 : j = 2 → L 0 = true) (hd8 : j = 8 → L 2 = true) (hc8 : L 8 = true → L 2 = true) (hLj : L j = false)
    (hV : ∀ k, k < 17 → L k = true → (∀ c, gyC k = some c → L c = false) → gyV W i o k (vs k) w) (hG : gyG j vs x w w') :
    Below W.heap.size W w' ∧ (∀ k, k < 17 → L k = true → gyK W ov av jj pv i o cy st er k (vs k) w') ∧ (∀ k, k < 17 → L k = true → (∀ c, gyC k = some c → L c = false ∧ c ≠ j) → gyV W i o k (vs k) w') ∧ True ∧ ∀ w0 : World, True → True := by
  by_cases h2 : j = 2
  · subst h2
    have hg : w.grownBy w' (vs 0).ownBlock := hG
    have l0 := hd2 rfl
    have l8 : L 8 = false := by
      cases e : L 8 with
      | false => rfl
      | true => rw [hc8 e] at hLj; cases hLj
    obtain ⟨q0, e0, b0, s0⟩ := hK 0 (by decide) l0
    have hq0 : (vs 0).ownBlock = some q0 := by rw [e0]; rfl
    refine ⟨hC.grown hg hC.size (fun k hk => by rw [hq0] at hk; injection hk with hk; omega), fun k hk hl => gyK_size hg.size k _ (fun e => by subst e; rw [l8] at hl; cases hl) (hK k hk hl), fun k hk hl hc => ?_, trivial, fun _ _ => trivial⟩
    have hv := hV k hk hl (fun c e => (hc c e).1)
    by_cases k0 : k = 0
    · subst k0; exact absurd rfl (hc 2 rfl).2
    · by_cases k2 : k = 2
      · subst k2; rw [hLj] at hl; cases hl
      · by_cases k7 : k = 7
        · subst k7
          obtain ⟨q7, e7, hi⟩ := hv
          have hne := gy_07 e0 e7 (hP 0 7 (by decide) (by decide) (by decide) l0 hl)
          exact ⟨q7, e7, hi.grown hg (fun a ha => by injection ha with ha; subst ha; rw [hq0]; intro hc; injection hc with hc; exact hne hc.symm)⟩
        · match k, k0, k2, k7, hv with
          | 0, h, _, _, _ => exact absurd rfl h
          | 1, _, _, _, _ => trivial
          | 2, _, h, _, _ => exact absurd rfl h
          | 3, _, _, _, _ => trivial
          | 4, _, _, _, _ => trivial
          | 5, _, _, _, _ => trivial
          | 6, _, _, _, _ => trivial
          | 7, _, _, h, _ => exact absurd rfl h
          | _ + 8, _, _, _, _ => trivial
  · by_cases h8 : j = 8
    · subst h8
      have hg : w.grownBy w' (vs 2).ownBlock := hG
      have l2 := hd8 rfl
      obtain ⟨-, hb2⟩ := hK 2 (by decide) l2
      refine ⟨hC.grown hg hC.size (fun k hk => (hb2 k hk).1), fun k hk hl => gyK_size hg.size k _ (fun e => by subst e; rw [hLj] at hl; cases hl) (hK k hk hl), fun k hk hl hc => ?_, trivial, fun _ _ => trivial⟩
      by_cases k0 : k = 0
      · subst k0; have := (hc 2 rfl).1; rw [l2] at this; cases this
      · by_cases k2 : k = 2
        · subst k2; exact absurd rfl (hc 8 rfl).2
        · by_cases k7 : k = 7
          · subst k7; exact absurd rfl (hc 8 rfl).2
          · match k, k0, k2, k7 with
            | 0, h, _, _ => exact absurd rfl h
            | 1, _, _, _ => trivial
            | 2, _, h, _ => exact absurd rfl h
            | 3, _, _, _ => trivial
            | 4, _, _, _ => trivial
            | 5, _, _, _ => trivial
            | 6, _, _, _ => trivial
            | 7, _, _, h => exact absurd rfl h
            | _ + 8, _, _, _ => trivial
    · have hb := gyG_below j h2 h8 hG
      exact ⟨below_then hC hb, fun k hk hl => gyK_keep hb k _ (hK k hk hl), fun k hk hl hc => gyV_keep hb k _ (hV k hk hl (fun c e => (hc c e).1)), trivial, fun _ _ => trivial⟩
end Go.Proofs.YtpmbgcfnehplaaaDoor
