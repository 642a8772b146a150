/- Regions in a round of a loop over an iterator: what is proved of a region outside of rounds serves there too. -/
import Derived.Test.YtpdpcgeeneajjaaDoorsJ
import Derived.RangeFuncNested
import Derived.RangeFuncBound
import Derived.RangeFuncCalls
import Derived.RangeFuncLeaves
import Derived.RangeFuncBox
import Derived.Shelf.Abstract
import Derived.Shelf.RegionOpen
import Derived.OwnWalkIn
import Derived.TacticsInMore
import Derived.LoopNIn
import Derived.LoopIn
import Derived.OrdersIn
import Derived.BigQuiet
set_option linter.unusedVariables false
set_option linter.unusedSimpArgs false
namespace Go.Proofs.YtpdpcgeeneajjaaDoor
open Go.RowKit Go.Shelf
section
variable {P : Program} {Q : Exit → Act → World → Prop} {k n : Nat} {ops : Array Oper}
theorem upon_in {o : Oper} {a : Act} {next : Act → World → Prop} {r : Result Next} (h : o.upon P a next Q r) : o.uponIn (Fence.wide.inRound k) n P a next Q r := by
  cases r with
  | ok x w' =>
    cases x with
    | value v => exact h
    | skip => exact h
    | defer d => exact h
    | enter f args => exact ⟨fun h => by simp [Fence.wide] at h, CallsIn.inRound k (callsIn_wide.2 h)⟩
    | row row args => exact ⟨fun h => by simp [Fence.wide] at h, fun c cs _ => let ⟨v, w', r, s⟩ := h c cs; ⟨v, w', r, stepsIn_wide.2 s⟩⟩
    | _ => exact h.elim
  | halt x w' => cases x <;> first | exact h | exact h.elim
theorem wp_in {o : Oper} {a : Act} {w : World} {next : Act → World → Prop} (hd : ∀ c, o.op ≠ .defer c) (h : o.wp P a w next Q) : o.wpIn (Fence.wide.inRound k) n P a w next Q :=
  ⟨fun _ _ => trivial, by rw [Oper.semAt_eq _ _ _ hd]; exact upon_in h⟩
def noDefer (l : List Oper) : Bool := l.all fun o => match o.op with | .defer _ => false | _ => true
theorem noDefer_get {l : List Oper} (h : noDefer l = true) {i : Nat} {o : Oper} (hi : l[i]? = some o) : ∀ c, o.op ≠ .defer c := fun c e => by
  have := List.all_eq_true.1 h o (List.mem_of_getElem? hi)
  rw [e] at this; cases this
theorem wpOp_in {l : List Oper} (hd : noDefer l = true) (hL : ¬ LetsOut Q) {i : Nat} {K K' : Act → World → Prop} {a : Act} {w : World} (hK : ∀ a w, K a w → K' a w) (h : wpOp P l.toArray Q i K a w) : wpOpIn (Fence.wide.inRound k) n P l.toArray Q i K' a w := by
  refine wpOpIn_mono hK ?_
  unfold wpOp at h
  unfold wpOpIn
  cases ho : l.toArray[i]? with
  | none => rw [ho] at h; exact h
  | some o =>
    rw [ho] at h
    simp only at h ⊢
    by_cases hw : Region.wanted o (yielded l.toArray a.tmps) = true
    · rw [if_pos hw] at h ⊢
      exact wp_in (noDefer_get hd (i := i) (by simpa using ho)) (h.resolve_right fun h => hL h.2)
    · rw [if_neg hw] at h ⊢
      exact ⟨fun _ _ => trivial, h⟩
theorem wpAny_in {l : List Oper} {md : Region.Mode} (hd : noDefer l = true) (hL : ¬ LetsOut Q) : ∀ (fuel : Nat) (listed : Array Bool) (a : Act) (w : World), wpAny P md l.toArray Q fuel listed a w → wpAnyIn (Fence.wide.inRound k) n P md l.toArray Q fuel listed a w
  | 0, _, _, _, h => h
  | fuel + 1, listed, a, w, h => ⟨h.1, fun i hi => wpOp_in hd hL (fun a w => wpAny_in hd hL fuel _ a w) (h.2 i hi)⟩
theorem wpList_in {l : List Oper} (hL : ¬ LetsOut Q) : ∀ (r : List Oper) (a : Act) (w : World), noDefer r = true → wpList P l.toArray Q r a w → wpListIn (Fence.wide.inRound k) n P l.toArray Q r a w
  | [], _, _, _, h => h
  | o :: r, a, w, hd, h => by
    have hd1 := noDefer_get hd (i := 0) rfl
    have hd2 : noDefer r = true := by unfold noDefer at hd ⊢; rw [List.all_cons, Bool.and_eq_true] at hd; exact hd.2
    unfold wpList at h
    unfold wpListIn
    by_cases hw : Region.wanted o (yielded l.toArray a.tmps) = true
    · rw [if_pos hw] at h ⊢
      exact Oper.wpIn_mono (fun a w => wpList_in hL r a w hd2) (wp_in hd1 (h.resolve_right fun h => hL h.2))
    · rw [if_neg hw] at h ⊢
      exact ⟨fun _ _ => trivial, wpList_in hL r _ w hd2 h⟩
theorem regR_list {id : Nat} {l : List Oper} {a : Act} {w : World} (hd : noDefer l = true) (h : wpList P l.toArray (fun e b w => e = .normal ∧ Q .normal b w) l a w) : (Code.region id l.toArray false).wpIn (Fence.wide.inRound k) n P Q a w :=
  Code.wpIn_mono (Q := fun e b w => e = .normal ∧ Q .normal b w) (fun e b w h => by obtain ⟨rfl, h⟩ := h; exact h) (wpIn_region_lit (wpList_in (fun h => by obtain ⟨_, _, h, _⟩ := h; cases h) l a w hd h))
theorem regR_any {id : Nat} {l : List Oper} {a : Act} {w : World} (hm : P.follows .mixedOrders = true) (hd : noDefer l = true)
    (h : wpAny P .any l.toArray (fun e b w => e = .normal ∧ Q .normal b w) l.toArray.size (Array.replicate l.toArray.size false) a w.drew) : (Code.region id l.toArray true).wpIn (Fence.wide.inRound k) n P Q a w :=
  Code.wpIn_mono (Q := fun e b w => e = .normal ∧ Q .normal b w) (fun e b w h => by obtain ⟨rfl, h⟩ := h; exact h) (wpIn_region_any hm (wpAny_in hd (fun h => by obtain ⟨_, _, h, _⟩ := h; cases h) _ _ _ _ h))
theorem regR_quiet {id : Nat} {l : List Oper} {a : Act} {w : World} (hm : P.follows .mixedOrders = true) (hd : noDefer l = true) (hB : Region.lexB .any l.toArray = true)
    (h : wpQuiet P l.toArray (fun w' => ∃ n, w' = w.drewN n) (fun a' => ∀ w', (∃ n, w' = w.drewN n) → Q .normal a' w') l a) : (Code.region id l.toArray true).wpIn (Fence.wide.inRound k) n P Q a w := by
  refine regR_any hm hd ?_
  simp only [Region.lexB, Bool.and_eq_true] at hB
  refine wpAny_of_quiet (C := fun w' => ∃ n, w' = w.drewN n) (Q := fun a' => ∀ w', (∃ n, w' = w.drewN n) → Q .normal a' w') (fun _ w' hw' h => ⟨rfl, h w' hw'⟩) _ _ _ _ ⟨1, rfl⟩ ?_
  have := wpAnyQ_lex (C := fun w' => ∃ n, w' = w.drewN n) (md := .any) hB.1 l 0 (Array.replicate l.toArray.size false) a (by simp) (by simpa using hB.2) h
  simpa using this
theorem regR_grow {id : Nat} {a : Act} {w : World} {l : List Oper} (N : Nat) (C : World → Prop) (G : World → World → Prop) (F : Nat → Value → World → Prop) (hm : P.follows .mixedOrders = true) (hd : noDefer l = true) (hB : growB .any N a.tmps.size l = true)
    (hC : C w.drew) (hst : ∀ w w', C w → G w w' → C w' ∧ ∀ i, i < N → ∀ v, F i v w → F i v w') (hs : stepsL P .any l a C G F 0 (l.take N))
    (hf : ∀ vs w', C w' → (∀ i, i < N → F i (vs i) w') → wpList P l.toArray (fun e b w => e = .normal ∧ Q .normal b w) (l.drop N) (stL l 0 (fun i => decide (i < N)) vs a) w') : (Code.region id l.toArray true).wpIn (Fence.wide.inRound k) n P Q a w := by
  refine regR_any hm hd ?_
  have h0 : stL l 0 (fun i => (Array.replicate l.toArray.size false).getD i false) (fun _ => undef) a = a := by
    rw [stL_congr l 0 _ (fun _ => false) (fun _ => undef) (fun _ => undef) a (fun i _ hi => ⟨by simp [Array.getD_eq_getD_getElem?, Array.getElem?_replicate]; split <;> rfl, fun _ => rfl⟩)]
    exact stL_none _ _ _ _
  have := wpAny_grow (Q := fun e b w => e = .normal ∧ Q .normal b w) (C := C) (G := G) (F := F) (fun c a w h => absurd h.1 (by simp)) hB hst hs hf l.toArray.size (Array.replicate l.toArray.size false) w.drew (fun _ => undef) (by
    rw [List.countP_eq_length.2 (fun i hi => by simp [Array.getD_eq_getD_getElem?, Array.getElem?_replicate]; split <;> rfl)]
    simp) (by simp) (fun i hi _ => by simp [Array.getD_eq_getD_getElem?, Array.getElem?_replicate]; split <;> rfl) hC (fun i _ h => by
      simp [Array.getD_eq_getD_getElem?, Array.getElem?_replicate] at h
      split at h <;> simp at h)
  rw [h0] at this
  exact this
end
end Go.Proofs.YtpdpcgeeneajjaaDoor
