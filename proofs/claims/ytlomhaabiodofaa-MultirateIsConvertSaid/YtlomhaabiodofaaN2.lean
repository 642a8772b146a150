/- Contracts for the laws IsConvert, NobleUp, NobleDown. -/
import Derived.Test.YtlomhaabiodofaaN1
import Derived.Test.YtlomhaabiodofaaNl
import Derived.Test.YtlomhaabiodofaaMt
namespace Go.Proofs.Ytlomhaabiodofaa
open Go.RowKit

theorem word_fits {b f r o : Int} (h : okW b f r o = true) (y : Int) : fitsW b f r o (wordF b f r o y) = true := by
  have hl := low_high b f r o
  obtain ⟨g1, g2⟩ := within_in (m := highW b f r o - lowW b f r o + 1) (by omega) (wrap64 (y - lowW b f r o))
  refine fits_iff.2 ⟨h, ?_, ?_⟩ <;> (unfold wordF; omega)
theorem words_fits {b f r o : Int} (h : okW b f r o = true) (l : List Int) (n : Nat) : wordsB b f r o (wordsF b f r o l n) = true := by
  refine List.all_eq_true.2 fun y hy => ?_
  unfold wordsF at hy
  obtain ⟨i, _, rfl⟩ := List.mem_map.1 hy
  exact word_fits h _
theorem fits_el {b f r o : Int} {l : List Int} (h : okW b f r o = true) (hl : wordsB b f r o l = true) (k : Nat) : fitsW b f r o (el l k) = true := by
  rcases Nat.lt_or_ge k l.length with hk | hk
  · rw [el_of (List.getElem?_eq_getElem hk)]
    exact List.all_eq_true.1 hl _ (List.getElem_mem hk)
  · rw [el_none hk]; exact fits_0 h
theorem fits_list {b f r o : Int} {l : List Int} (hl : ∀ k, fitsW b f r o (el l k) = true) : wordsB b f r o l = true := by
  refine List.all_eq_true.2 fun y hy => ?_
  obtain ⟨i, hi⟩ := List.getElem?_of_mem hy
  rw [← el_of hi]; exact hl i
theorem fits_every {b f r o : Int} {l : List Int} {m : Nat} (hm : 1 ≤ m) (h : okW b f r o = true) (hl : wordsB b f r o l = true) : wordsB b f r o (everyF l 0 m) = true :=
  fits_list fun k => by rw [el_every hm]; exact fits_el h hl _
theorem fits_exp {b f r o : Int} {l : List Int} {m : Nat} (hm : 1 ≤ m) (h : okW b f r o = true) (hl : wordsB b f r o l = true) : wordsB b f r o (expF l m) = true :=
  fits_list fun k => by rw [el_exp hm]; split; exact fits_el h hl _; exact fits_0 h
theorem fits_up {b f r o : Int} {l : List Int} {m : Nat} (hm : 1 ≤ m) (h : okW b f r o = true) (hl : wordsB b f r o l = true) : wordsB b f r o (upF l m) = true :=
  fits_list fun k => by rw [el_up hm]; split; exact fits_el h hl _; exact fits_0 h
theorem conv1_len (b f r o cf : Int) (h x : List Int) : (convF b f r o cf h 1 1 x).length = x.length := by rw [conv_1, filtF_length]
theorem every_len {l : List Int} {m : Nat} (hm : 1 ≤ m) : (everyF l 0 m).length ≤ l.length := by rw [show (everyF l 0 m).length = cnt l.length 0 m from everyN_length _ _ _ _]; exact cnt_le _ _ _ hm
theorem exp_len {l : List Int} {m : Nat} (hm : 1 ≤ m) : (expF l m).length ≤ l.length * m := by rw [show (expF l m).length = exLen m l.length from exN_length _ _ _]; exact exLen_le _ _ hm
theorem up_ok2 {n l : Nat} (h1 : 1 ≤ l) (h2 : l ≤ 12) (h3 : n ≤ 4096) (h4 : l * n ≤ 4096) : upE n l = 0 := by
  unfold upE; rw [if_pos (inB_iff.2 ⟨by omega, by omega⟩), if_neg (by rw [← Int.natCast_mul]; omega)]
theorem down_ok2 {n l : Nat} (h1 : 1 ≤ l) (h2 : l ≤ 12) (h3 : n ≤ 4096) : downE n l = 0 := by
  unfold downE; rw [if_pos (inB_iff.2 ⟨by omega, by omega⟩), if_neg (by omega)]
theorem below_two {a : World} (o p : Obj) : Below a.heap.size a ((a.alloc o).alloc p) := ((Below.refl _ _).alloc (Nat.le_refl _) _).alloc (by simp) _
theorem mr_Expand_is (A : Option Addr) (x : List Int) (c m : Nat) (M : Int) (w : World) (hM : M = (m : Int)) (h1 : 1 ≤ m) (h2 : m ≤ 12) (hx : x.length * m ≤ 4096) (h : Ints w A x) :
    Calls Try.prog 15 #[.slice A x.length c, .int .i64 M] w (GetInts w (expF x m) 0) := by
  subst hM
  have h3 : x.length ≤ 4096 := Nat.le_trans (Nat.le_mul_of_pos_right _ h1) hx
  refine (mr_Expand A x c m w (by omega) h).mono fun e w' hh => ?_
  have hE : expE x.length m = 0 := by
    unfold expE
    rw [if_pos (inB_iff.2 ⟨by omega, by omega⟩), if_neg]
    rw [Int.sub_mul, ← Int.natCast_mul]; omega
  rw [hE, expV_of hE] at hh
  exact hh.get
theorem mr_Convert_is (A B : Option Addr) (h x : List Int) (c d : Nat) (up down : Nat) (U D : Int) (b f r o b' f' r' o' : Int) (w : World) (hU : U = (up : Int)) (hD : D = (down : Int)) (k1 : okW b f r o = true) (k2 : okW b' f' r' o' = true) (u1 : 1 ≤ up) (u2 : up ≤ 12) (d1 : 1 ≤ down) (d2 : down ≤ 12)
    (hl : h.length ≤ 49) (xl : x.length ≤ 4096) (hu : up * x.length ≤ 4096) (q1 : wordsB b' f' r' o' h = true) (q2 : wordsB b f r o x = true) (hh : Ints w A h) (hx : Ints w B x) :
    Calls Try.prog 9 #[.slice A h.length c, .int .i64 U, .int .i64 D, wordV b f r o, wordV b' f' r' o', .slice B x.length d] w (GetInts w (convF b f r o f' h up down x) 0) := by
  subst hU hD
  exact (mr_Convert_good A B h x c d up down b f r o b' f' r' o' w hh hx k1 k2 u1 u2 d1 d2 hl xl hu q1 q2).mono fun e w' hh => hh.get
theorem mr_Filter_is (A B : Option Addr) (h x : List Int) (c d : Nat) (b f r o b' f' r' o' : Int) (w : World) (k1 : okW b f r o = true) (k2 : okW b' f' r' o' = true)
    (hl : h.length ≤ 49) (xl : x.length ≤ 4096) (q1 : wordsB b' f' r' o' h = true) (q2 : wordsB b f r o x = true) (hh : Ints w A h) (hx : Ints w B x) :
    Calls Try.prog 11 #[.slice A h.length c, wordV b f r o, wordV b' f' r' o', .slice B x.length d] w (GetInts w (convF b f r o f' h 1 1 x) 0) := by
  obtain ⟨e1, e2⟩ := conv_ok (h := h) (x := x) (up := 1) (down := 1) k1 k2 (by decide) (by decide) (by decide) (by decide) hl xl (by omega) q1 q2
  refine (mr_Filter A B h x c d b f r o b' f' r' o' w (by omega) (by omega) hh hx).mono fun e w' q => ?_
  have e1' : convE b f r o b' f' r' o' h 1 1 x = 0 := e1
  have e2' : convV b f r o b' f' r' o' h 1 1 x = convF b f r o f' h 1 1 x := e2
  rw [e1', e2'] at q
  exact q.get
end Go.Proofs.Ytlomhaabiodofaa
