/- The walks of wide and known of law 33. -/
import Derived.Test.YtinjjaahljkhdaaV7
import Derived.Test.YtinjjaahljkhdaaB
namespace Go.Proofs.Ytinjjaahljkhdaa
open Go.RowKit

def wdF (x : List Int) (k : Nat) : List Int := (List.range k).map fun i => wrapF 32 (el x i)
theorem wdF_length (x : List Int) (k : Nat) : (wdF x k).length = k := by simp [wdF]
theorem wdF_succ (x : List Int) (k : Nat) : wdF x (k + 1) = wdF x k ++ [wrapF 32 (el x k)] := by simp [wdF, List.range_succ]
theorem wdF_w32 (x : List Int) (k : Nat) : W32 (wdF x k) := by
  intro y hy
  obtain ⟨i, _, rfl⟩ := List.mem_map.1 hy
  exact w32_wrap _
def wdN (x : List Int) : Nat := min (2 * (x.length / 2)) 40
theorem wdN_even (x : List Int) : ∃ h, wdN x = 2 * h ∧ h ≤ 20 := ⟨min (x.length / 2) 20, by unfold wdN; omega, by omega⟩

theorem rf_SameB (A B : Option Addr) (l m : List Int) (c d : Nat) (w : World) (hm : m.length ≤ 9223372036854775807) (he : l = m) (h : Ints w A l) (g : Ints w B m) :
    Calls Try.prog 11 #[.slice A l.length c, .slice B m.length d] w fun e w' => e = .returned (.bool true) ∧ Below w.heap.size w w' :=
  (rf_SameInts A B l m c d w hm h g).mono fun e w' hh => ⟨by rw [hh.1, he]; simp, hh.2⟩
theorem add_cellsB (g k : Nat) : (⟨g, 0, none⟩ : Addr).add k = ⟨g, k, none⟩ := by
  unfold Addr.add
  by_cases h0 : k = 0 <;> simp [h0]
theorem litB {w : World} {cs : Array Value} {t : TypeId} {l : List Int} (hc : cs.toList = l.map (Value.int .i64)) (hl : l.all (fun x => decide (-9223372036854775808 ≤ x) && decide (x ≤ 9223372036854775807)) = true) : Ints (w.alloc (.cells cs t)) (some ⟨w.heap.size, 0, none⟩) l := by
  refine ⟨?_, fun x hx => by have := List.all_eq_true.1 hl x hx; simp at this; exact this⟩
  rw [← hc]
  intro k v hk
  refine ⟨_, rfl, by simp, ?_⟩
  rw [add_cellsB]
  simpa [go_sem] using hk
theorem belowA {W w : World} {o : Obj} (h : Below W.heap.size W w) : Below W.heap.size W (w.alloc o) := h.alloc h.size _
theorem litBn {w : World} {n : Nat} {cs : Array Value} {t : TypeId} {l : List Int} (hn : n = w.heap.size) (hc : cs.toList = l.map (Value.int .i64)) (hl : l.all (fun x => decide (-9223372036854775808 ≤ x) && decide (x ≤ 9223372036854775807)) = true) : Ints (w.alloc (.cells cs t)) (some ⟨n, 0, none⟩) l := by
  subst hn; exact litB hc hl
end Go.Proofs.Ytinjjaahljkhdaa
