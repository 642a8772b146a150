/- Several texts in one: C E23 S1 Ca. -/
import Derived.Test.YtdiflpbioohddaaDoortAtoV1
import Derived.Test.YtdiflpbioohddaaDoortE13toE16
import Derived.Test.YtdiflpbioohddaaDoortT3toE7
set_option linter.unusedVariables false
set_option linter.unusedSimpArgs false
section
namespace Go.Proofs.YtdiflpbioohddaaDoor
open Go.RowKit
def mkW (k least most above : Int) : Int × Int × Int × Int :=
 (least + withinF k 1099511627776 % (most - least + 1),
  max (least + withinF k 1099511627776 % (most - least + 1) - 1 - above - withinF k 1099511627776 / (most - least + 1) % 2) 0,
  1 + withinF k 1099511627776 / (most - least + 1) / 2 % 3,
  1 + withinF k 1099511627776 / (most - least + 1) / 2 / 3 % 2)
abbrev wordT (u : Int × Int × Int × Int) : Value := wordV u.1 u.2.1 u.2.2.1 u.2.2.2
theorem wd_WordD (k : Int) (w : World) : Calls Tryd.prog 61 #[.int .i64 k, .int .i64 6, .int .i64 12, .int .i64 2] w fun e w' => e = .returned (wordT (mkW k 6 12 2)) ∧ Below w.heap.size w w' := by
 obtain ⟨g1, g2⟩ := within_in (m := 1099511627776) (by decide) k
 obtain ⟨y, hy⟩ : ∃ y, withinF k 1099511627776 = y := ⟨_, rfl⟩
 have HW : Hid (mkW k 6 12 2 = (6 + y % 7, max (6 + y % 7 - 1 - 2 - y / 7 % 2) 0, 1 + y / 7 / 2 % 3, 1 + y / 7 / 2 / 3 % 2)) := by unfold mkW; rw [hy]; exact rfl
 rw [hy] at g1 g2
 go_enter Tryd.func61, Tryd.ntmps61
 go_wp2_with (go_at_call 23; refine (wd_Within _ _ _ (by decide)).mono ?_; rintro e w' ⟨rfl, rfl⟩)
 refine bodyPost_ret (v := wordT (mkW k 6 12 2)) (by rw [HW.out]; simp [results, Tryd.results61, go_sem] <;> omega) rfl ⟨rfl, ?_⟩
 exact ((Below.refl _ _).alloc (Nat.le_refl _) _).alloc (by simp) _
theorem mkWD_ok (k : Int) : okW (mkW k 6 12 2).1 (mkW k 6 12 2).2.1 (mkW k 6 12 2).2.2.1 (mkW k 6 12 2).2.2.2 = true := by
 obtain ⟨g1, g2⟩ := within_in (m := 1099511627776) (by decide) k
 rw [okW_iff]
 unfold mkW
 dsimp only
 omega
theorem wd_WordC (k : Int) (w : World) : Calls Tryd.prog 61 #[.int .i64 k, .int .i64 6, .int .i64 9, .int .i64 1] w fun e w' => e = .returned (wordT (mkW k 6 9 1)) ∧ Below w.heap.size w w' := by
 obtain ⟨g1, g2⟩ := within_in (m := 1099511627776) (by decide) k
 obtain ⟨y, hy⟩ : ∃ y, withinF k 1099511627776 = y := ⟨_, rfl⟩
 have HW : Hid (mkW k 6 9 1 = (6 + y % 4, max (6 + y % 4 - 1 - 1 - y / 4 % 2) 0, 1 + y / 4 / 2 % 3, 1 + y / 4 / 2 / 3 % 2)) := by unfold mkW; rw [hy]; exact rfl
 rw [hy] at g1 g2
 go_enter Tryd.func61, Tryd.ntmps61
 go_wp2_with (go_at_call 23; refine (wd_Within _ _ _ (by decide)).mono ?_; rintro e w' ⟨rfl, rfl⟩)
 refine bodyPost_ret (v := wordT (mkW k 6 9 1)) (by rw [HW.out]; simp [results, Tryd.results61, go_sem] <;> omega) rfl ⟨rfl, ?_⟩
 exact ((Below.refl _ _).alloc (Nat.le_refl _) _).alloc (by simp) _
theorem mkWC_ok (k : Int) : okW (mkW k 6 9 1).1 (mkW k 6 9 1).2.1 (mkW k 6 9 1).2.2.1 (mkW k 6 9 1).2.2.2 = true := by
 obtain ⟨g1, g2⟩ := within_in (m := 1099511627776) (by decide) k
 rw [okW_iff]
 unfold mkW
 dsimp only
 omega
theorem wd_Data (k : Int) (w : World) : Calls Tryd.prog 27 #[.int .i64 k] w fun e w' => e = .returned (wordT (mkW k 6 12 2)) ∧ Below w.heap.size w w' := by
 go_enter Tryd.func27, Tryd.ntmps27
 go_wp2_with (go_at_call 61; refine (wd_WordD _ _).mono ?_; rintro e w1 ⟨rfl, hb1⟩; obtain ⟨hc1, hf1⟩ := bcell hb1)
 refine bodyPost_ret (v := wordT (mkW k 6 12 2)) (by simp [results, Tryd.results27, go_sem, hc1]) rfl ⟨rfl, ?_⟩
 have hb : Below w.heap.size w w1 := ((Below.refl _ _).alloc (Nat.le_refl _) _).trans (hb1.mono (by simp))
 exact (((hb.setCell (by simp) _).setCell (by simp) _).setCell (by simp) _).setCell (by simp) _
theorem wd_Coef (k : Int) (w : World) : Calls Tryd.prog 29 #[.int .i64 k] w fun e w' => e = .returned (wordT (mkW k 6 9 1)) ∧ Below w.heap.size w w' := by
 go_enter Tryd.func29, Tryd.ntmps29
 go_wp2_with (go_at_call 61; refine (wd_WordC _ _).mono ?_; rintro e w1 ⟨rfl, hb1⟩; obtain ⟨hc1, hf1⟩ := bcell hb1)
 refine bodyPost_ret (v := wordT (mkW k 6 9 1)) (by simp [results, Tryd.results29, go_sem, hc1]) rfl ⟨rfl, ?_⟩
 have hb : Below w.heap.size w w1 := ((Below.refl _ _).alloc (Nat.le_refl _) _).trans (hb1.mono (by simp))
 exact (((hb.setCell (by simp) _).setCell (by simp) _).setCell (by simp) _).setCell (by simp) _
end Go.Proofs.YtdiflpbioohddaaDoor
end
section
namespace Go.Proofs.YtdiflpbioohddaaDoor
open Go.RowKit
def encR (x : Int × Int) : List Int := [x.1, x.2]
def rgCells (x : Int × Int) : List Value := [.int .i64 x.1, .int .i64 x.2]
def RingsAt (w : World) (A : Option Addr) (l : List (Int × Int)) : Prop := ∀ (k : Nat) x, l[k]? = some x → ∃ ad, A = some ad ∧ ad.spot = none ∧ ad.block < w.heap.size ∧ w.rangeAt ad.block (ad.off + k * 2) (rgCells x) ∧ I64 x.1 ∧ I64 x.2
theorem RingsAt.nil {w : World} {A : Option Addr} : RingsAt w A [] := fun k x h => by simp at h
theorem RingsAt.grow {w w' : World} {A : Option Addr} {l : List (Int × Int)} (h : RingsAt w A l) (hb : Below w.heap.size w w') : RingsAt w' A l := fun k i hk => by
 obtain ⟨ad, e, h1, h2, h3, h4⟩ := h k i hk
 exact ⟨ad, e, h1, Nat.lt_of_lt_of_le h2 hb.size, range_keepI h3 h2 hb, h4⟩
theorem ring_cells {w : World} {x : Int × Int} {ad : Addr} {n : Nat} (hs : ad.spot = none) (hr : w.rangeAt ad.block (ad.off + n) (rgCells x)) :
  w.cell? (ad.add n) = some (.int .i64 x.1) ∧ w.cell? ⟨(ad.add n).block, (ad.add n).off + 1, none⟩ = some (.int .i64 x.2) := by
 rw [add_noneI hs]
 exact ⟨hr 0 _ rfl, hr 1 _ rfl⟩
theorem flatR_get {l : List (Int × Int)} {k j : Nat} {x : Int × Int} (h : l[k]? = some x) (hj : j < 2) : ((l.flatMap encR).map (Value.int .i64))[k * 2 + j]? = (rgCells x)[j]? := by
 rw [List.getElem?_map, flat_get (enc := encR) (sz := 2) (fun _ => rfl) l k j x h hj, ← List.getElem?_map]; rfl
theorem RingsAt.row {w : World} {A : Option Addr} {l : List (Int × Int)} (h : RingsAt w A l) : ∀ j u, ((l.flatMap encR).map (Value.int .i64))[j]? = some u → ∃ ad, A = some ad ∧ w.cell? (ad.add j) = some u := fun j u hu => by
 have hj : j < l.length * 2 := by
  have := (List.getElem?_eq_some_iff.1 hu).1
  rw [List.length_map, flat_length (enc := encR) (sz := 2) (fun _ => rfl)] at this
  exact this
 have hk : j / 2 < l.length := by omega
 have ht : l[j / 2]? = some l[j / 2] := List.getElem?_eq_getElem hk
 obtain ⟨ad, e, hs, -, hr, -⟩ := h _ _ ht
 refine ⟨ad, e, ?_⟩
 have ej : j = j / 2 * 2 + j % 2 := by omega
 rw [ej, flatR_get ht (by omega)] at hu
 rw [add_noneI hs, show ad.off + j = ad.off + j / 2 * 2 + j % 2 by omega]
 exact hr (j % 2) u hu
theorem RingsAt.grown {w w' : World} {A : Option Addr} {l : List (Int × Int)} {r : Option Nat} (h : RingsAt w A l) (hg : w.grownBy w' r) (hn : ∀ a, A = some a → some a.block ≠ r) : RingsAt w' A l := fun k i hk => by
 obtain ⟨ad, e, h1, h2, h3, h4⟩ := h k i hk
 exact ⟨ad, e, h1, Nat.lt_of_lt_of_le h2 hg.size, fun j v hj => hg.cell (h3 j v hj) (hn ad e), h4⟩
theorem RingsAt.ok {w : World} {A : Option Addr} {l : List (Int × Int)} (h : RingsAt w A l) : ∀ x ∈ l, I64 x.1 ∧ I64 x.2 := fun x hx => by
 obtain ⟨k, hk, rfl⟩ := List.getElem_of_mem hx
 obtain ⟨ad, -, -, -, -, h4⟩ := h k _ (List.getElem?_eq_getElem hk)
 exact h4
theorem info_ring : (Tryd.prog.info? 96).map (fun i => (i.zero, i.size, i.bytes)) = some (some (.agg #[.int .i64 0, .int .i64 0]), 2, 16) := by kernel_rfl
theorem und_ring : Tryd.prog.underlying 38 = some (.slice 96) := Tryd.underlying38
theorem size_ring : (Tryd.prog.info? 96).map (·.size) = some 2 := by kernel_rfl
def OwnRg (base : Nat) (w : World) (v : Value) (l : List (Int × Int)) : Prop := w.ownsRow base 96 2 v l.length ((l.flatMap encR).map (Value.int .i64)) ∧ ∀ i ∈ l, I64 i.1 ∧ I64 i.2
theorem OwnRg.nil {base : Nat} {w : World} : OwnRg base w (.slice none 0 0) [] := ⟨World.ownsRow_nil _ _ _ _, by simp⟩
theorem OwnRg.grow {base : Nat} {w w' : World} {v : Value} {l : List (Int × Int)} (h : OwnRg base w v l) (hb : Below w.heap.size w w') : OwnRg base w' v l := ⟨own_grow h.1 hb, h.2⟩
theorem OwnRg.base {base base' : Nat} {w : World} {v : Value} {l : List (Int × Int)} (h : OwnRg base w v l) (hb : base' ≤ base) : OwnRg base' w v l := ⟨own_base h.1 hb, h.2⟩
theorem OwnRg.store {base g k : Nat} {w : World} {v u : Value} {l : List (Int × Int)} (h : OwnRg base w v l) (hg : g < base) : OwnRg base (w.setCell ⟨g, k, none⟩ u) v l := ⟨own_store h.1 hg, h.2⟩
theorem OwnRg.ge {base : Nat} {w : World} {v : Value} {l : List (Int × Int)} (h : OwnRg base w v l) : ∀ k, v.ownBlock = some k → base ≤ k := fun k hk => (h.1.lt k hk).1
theorem OwnRg.form {base : Nat} {w : World} {v : Value} {l : List (Int × Int)} (h : OwnRg base w v l) : ∃ A c, v = .slice A l.length c ∧ l.length ≤ c ∧ RingsAt w A l := by
 obtain ⟨A, c, rfl, hc⟩ := own_form h.1
 refine ⟨A, c, rfl, hc, fun k i hk => ?_⟩
 have hc4 : ∀ j v, (rgCells i)[j]? = some v → ∃ g, A = some ⟨g, 0, none⟩ ∧ g < w.heap.size ∧ w.cell? ⟨g, k * 2 + j, none⟩ = some v := fun j v hj => by
  have hj4 : j < 2 := (List.getElem?_eq_some_iff.1 hj).1
  obtain ⟨g, e0, hg, d0⟩ := own_cells h.1 (k := k * 2 + j) (v := v) (by rw [flatR_get hk hj4]; exact hj)
  exact ⟨g, e0, hg, d0⟩
 obtain ⟨g, e0, hg, d0⟩ := hc4 0 _ rfl
 refine ⟨⟨g, 0, none⟩, e0, rfl, hg, fun j v hj => ?_, h.2 i (List.mem_of_getElem? hk)⟩
 obtain ⟨g1, e1, hg1, d1⟩ := hc4 j v hj
 rw [e0] at e1
 injection e1 with e1; injection e1 with e1
 subst e1
 rw [show (⟨g, 0, none⟩ : Addr).off + k * 2 + j = k * 2 + j by show 0 + k * 2 + j = _; omega]
 exact d1
theorem OwnRg.single {w : World} {i : Int × Int} (hi : I64 i.1 ∧ I64 i.2) : OwnRg w.heap.size (w.alloc (.cells (rgCells i).toArray 96)) (.slice (some ⟨w.heap.size, 0, none⟩) 1 1) [i] :=
 ⟨World.ownsRow_lit w (rgCells i).toArray 1 (Nat.le_refl _) (by unfold maxLen; omega) (by kernel_rfl), fun x hx => by rw [List.mem_singleton.1 hx]; exact hi⟩
theorem app_ring {ops : Array Oper} {rest : List Oper} {o : Oper} {a : Act} {Q : Exit → Act → World → Prop} (w : World) (hg : o.guard = none) (s x : Operand) (ho : o.op = .call { callee := .builtin .append, args := #[s, x], argTypes := #[38, 38] })
  (base : Nat) {v : Value} {l m : List (Int × Int)} {A : Option Addr} {n c : Nat} (hs : a.eval s = v) (hx : a.eval x = .slice A n c) (hown : OwnRg base w v l) (hI : RingsAt w A m) (hm : m.length = n) (hn : l.length + n ≤ 100000000) (hbase : base ≤ w.heap.size)
  (h : ∀ v' w', OwnRg base w' v' (l ++ m) → w.grownBy w' v.ownBlock → wpList Tryd.prog ops Q rest (a.put o.dst v') w') : wpList Tryd.prog ops Q (o :: rest) a w := by
 subst hm
 refine app_row w hg s x 38 96 (.agg #[.int .i64 0, .int .i64 0]) 2 16 ho und_ring info_ring rfl (by decide) (by decide) base hs hx hown.1 (ys := (m.flatMap encR).map (Value.int .i64)) ?_ hI.row nums_one hn hbase fun v' w' h1 h2 h3 => h v' w' ⟨?_, ?_⟩ h2
 ·rw [List.length_map, flat_length (enc := encR) (sz := 2) (fun _ => rfl)]
 ·rw [List.flatMap_append, List.map_append, List.length_append]; exact h1
 ·intro i hi
  rcases List.mem_append.1 hi with hi | hi
  ·exact hown.2 i hi
  ·exact hI.ok i hi
structure PrgD where
 (d0 d1 d2 d3 c0 c1 c2 c3 : Int)
 (rg : List (Int × Int))
 (code : List Ins)
structure PrgA where
 (d : PrgD)
 (RA CA : Option Addr)
 (rc cc : Nat)
def PrgA.lst (u : PrgA) : List Value := [.int .i64 u.d.d0, .int .i64 u.d.d1, .int .i64 u.d.d2, .int .i64 u.d.d3, .int .i64 u.d.c0, .int .i64 u.d.c1, .int .i64 u.d.c2, .int .i64 u.d.c3, .slice u.RA u.d.rg.length u.rc, .slice u.CA u.d.code.length u.cc]
def PrgA.v (u : PrgA) : Value := .agg u.lst.toArray
def PrgAt (w : World) (u : PrgA) : Prop := RingsAt w u.RA u.d.rg ∧ InsAt w u.CA u.d.code
theorem PrgAt.grow {w w' : World} {u : PrgA} (h : PrgAt w u) (hb : Below w.heap.size w w') : PrgAt w' u := ⟨h.1.grow hb, h.2.grow hb⟩
end Go.Proofs.YtdiflpbioohddaaDoor
end
section
namespace Go.Proofs.YtdiflpbioohddaaDoor
open Go.RowKit
def ringIn (x : Int × Int) : Bool := decide (1 ≤ x.2 ∧ x.2 ≤ 128 ∧ 0 ≤ x.1 ∧ x.1 ≤ 128 - x.2)
def inR (m : Int) (x : Int × Int) : Bool := decide (x.1 ≤ m ∧ m < x.1 + x.2)
def usdB (rg : List (Int × Int)) (m : Int) : Bool := rg.any (inR m)
def clash (x y : Int × Int) : Bool := decide (x.1 < y.1 + y.2 ∧ y.1 < x.1 + x.2)
def ringsK (rg : List (Int × Int)) : Nat → Bool
 | 0 => true
 | k + 1 => ringsK rg k && (ringIn (rg.getD k (0, 0)) && !(rg.take k).any (clash (rg.getD k (0, 0))))
def ringsB (rg : List (Int × Int)) : Bool := decide (rg.length ≤ 8) && ringsK rg rg.length
def fitI (d : PrgD) (i : Ins) : Bool :=
 (if i.op = 4 then decide (i.a < d.rg.length) && decide (i.b < (d.rg.getD i.a.toNat (0, 0)).2) else if i.op = 8 then decide (i.a < d.rg.length)
  else if i.op = 3 then !usdB d.rg i.a else if i.op = 6 ∨ i.op = 7 then !usdB d.rg i.b else true)
 && (if i.op = 2 ∨ i.op = 3 ∨ i.op = 4 then fitsW d.c0 d.c1 d.c2 d.c3 i.imm || decide (i.imm = 2 ^ d.c1.toNat) else true)
def suitB (d : PrgD) (i : Ins) : Bool := i.formed && fitI d i
def okWD (d : PrgD) : Bool := okW d.d0 d.d1 d.d2 d.d3 && okW d.c0 d.c1 d.c2 d.c3
def goodAt (d : PrgD) (k : Nat) : Bool := suitB d (d.code.getD k Ins.zero) && (decide ((d.code.getD k Ins.zero).op = 0) == decide (k + 1 = d.code.length))
def chkF (d : PrgD) : Int × Int :=
 if okWD d = false then (-1, 2) else if ringsB d.rg = false then (-1, 23) else if inB d.code.length 1 512 = false then (-1, 5)
 else match (List.range d.code.length).find? (fun k => !goodAt d k) with
  | some k => ((k : Int), 21)
  | none => (-1, 0)
def validB (d : PrgD) : Bool := okWD d && (ringsB d.rg && (inB d.code.length 1 512 && (List.range d.code.length).all (goodAt d)))
theorem find_range {p : Nat → Bool} {n k : Nat} (hk : k < n) (h : ∀ j, j < k → p j = false) (hp : p k = true) : (List.range n).find? p = some k := by
 rw [List.find?_range_eq_some]
 exact ⟨hp, List.mem_range.2 hk, fun j hj => by rw [h j hj]; rfl⟩
theorem find_none {p : Nat → Bool} {n : Nat} (h : ∀ j, j < n → p j = false) : (List.range n).find? p = none := by
 rw [List.find?_eq_none]
 intro j hj
 rw [h j (List.mem_range.1 hj)]; simp
theorem chk_words {d : PrgD} (h : okWD d = false) : chkF d = (-1, 2) := by unfold chkF; rw [if_pos h]
theorem chk_rings {d : PrgD} (h : okWD d = true) (h1 : ringsB d.rg = false) : chkF d = (-1, 23) := by unfold chkF; rw [if_neg (by rw [h]; decide), if_pos h1]
theorem chk_many {d : PrgD} (h : okWD d = true) (h1 : ringsB d.rg = true) (h2 : inB d.code.length 1 512 = false) : chkF d = (-1, 5) := by
 unfold chkF; rw [if_neg (by rw [h]; decide), if_neg (by rw [h1]; decide), if_pos h2]
theorem chk_at {d : PrgD} (h : okWD d = true) (h1 : ringsB d.rg = true) (h2 : inB d.code.length 1 512 = true) {k : Nat} (hk : k < d.code.length) (hg : ∀ j, j < k → goodAt d j = true) (hb : goodAt d k = false) : chkF d = ((k : Int), 21) := by
 unfold chkF
 rw [if_neg (by rw [h]; decide), if_neg (by rw [h1]; decide), if_neg (by rw [h2]; decide), find_range (p := fun k => !goodAt d k) hk (fun j hj => by rw [hg j hj]; rfl) (by rw [hb]; rfl)]
theorem chk_ok {d : PrgD} (h : okWD d = true) (h1 : ringsB d.rg = true) (h2 : inB d.code.length 1 512 = true) (hg : ∀ j, j < d.code.length → goodAt d j = true) : chkF d = (-1, 0) := by
 unfold chkF
 rw [if_neg (by rw [h]; decide), if_neg (by rw [h1]; decide), if_neg (by rw [h2]; decide), find_none (p := fun k => !goodAt d k) (fun j hj => by rw [hg j hj]; rfl)]
theorem chk_valid (d : PrgD) : decide ((chkF d).2 = 0) = validB d := by
 unfold validB
 rcases Bool.eq_false_or_eq_true (okWD d) with h | h
 ·rcases Bool.eq_false_or_eq_true (ringsB d.rg) with h1 | h1
  ·rcases Bool.eq_false_or_eq_true (inB d.code.length 1 512) with h2 | h2
   ·rw [h, h1, h2]
    by_cases hg : ∀ j, j < d.code.length → goodAt d j = true
    ·rw [chk_ok h h1 h2 hg]
     simp only [Bool.true_and]
     exact (List.all_eq_true.2 fun j hj => hg j (List.mem_range.1 hj)).symm
    ·unfold chkF
     rw [if_neg (by rw [h]; decide), if_neg (by rw [h1]; decide), if_neg (by rw [h2]; decide)]
     cases e : (List.range d.code.length).find? (fun k => !goodAt d k) with
     | none =>
      rw [List.find?_eq_none] at e
      exact absurd (fun j hj => by have := e j (List.mem_range.2 hj); simpa using this) hg
     | some k =>
      have h3 := List.find?_some e
      have h4 := List.mem_of_find?_eq_some e
      simp only [Bool.true_and]
      symm
      show _ = false
      rw [List.all_eq_false]
      exact ⟨k, h4, by simpa using h3⟩
   ·rw [chk_many h h1 h2, h2]; simp
  ·rw [chk_rings h h1, h1]; simp
 ·rw [chk_words h, h]; simp
theorem valid_parts {d : PrgD} (h : validB d = true) : okWD d = true ∧ ringsB d.rg = true ∧ (1 ≤ d.code.length ∧ d.code.length ≤ 512) ∧ ∀ j, j < d.code.length → goodAt d j = true := by
 unfold validB at h
 simp only [Bool.and_eq_true] at h
 obtain ⟨h1, h2, h3, h4⟩ := h
 rw [inB_iff] at h3
 exact ⟨h1, h2, by omega, fun j hj => List.all_eq_true.1 h4 j (List.mem_range.2 hj)⟩
theorem inR_iff {m : Int} {x : Int × Int} : inR m x = true ↔ x.1 ≤ m ∧ m < x.1 + x.2 := by unfold inR; rw [decide_eq_true_eq]
theorem ringIn_iff {x : Int × Int} : ringIn x = true ↔ 1 ≤ x.2 ∧ x.2 ≤ 128 ∧ 0 ≤ x.1 ∧ x.1 ≤ 128 - x.2 := by unfold ringIn; rw [decide_eq_true_eq]
theorem clash_iff {x y : Int × Int} : clash x y = true ↔ x.1 < y.1 + y.2 ∧ y.1 < x.1 + x.2 := by unfold clash; rw [decide_eq_true_eq]
theorem clash_used {x : Int × Int} {l : List (Int × Int)} (hx : 1 ≤ x.2) (hl : ∀ y ∈ l, 1 ≤ y.2) : l.any (clash x) = true ↔ ∃ k : Nat, (k : Int) < x.2 ∧ usdB l (x.1 + k) = true := by
 unfold usdB
 constructor
 ·intro h
  obtain ⟨y, hy, hc⟩ := List.any_eq_true.1 h
  rw [clash_iff] at hc
  have := hl y hy
  refine ⟨(max y.1 x.1 - x.1).toNat, by omega, List.any_eq_true.2 ⟨y, hy, inR_iff.2 (by omega)⟩⟩
 ·rintro ⟨k, hk, h⟩
  obtain ⟨y, hy, hc⟩ := List.any_eq_true.1 h
  rw [inR_iff] at hc
  exact List.any_eq_true.2 ⟨y, hy, clash_iff.2 (by omega)⟩
theorem ringsK_all {rg : List (Int × Int)} : ∀ {k : Nat}, ringsK rg k = true → k ≤ rg.length → ∀ y ∈ rg.take k, ringIn y = true
 | 0, _, _ => by simp
 | k + 1, h, hk => fun y hy => by
  unfold ringsK at h
  simp only [Bool.and_eq_true] at h
  have e : rg.take (k + 1) = rg.take k ++ [rg.getD k (0, 0)] := by
   rw [List.take_succ_eq_append_getElem (show k < rg.length by omega), List.getD_eq_getElem?_getD, List.getElem?_eq_getElem (show k < rg.length by omega)]; rfl
  rw [e] at hy
  rcases List.mem_append.1 hy with h2 | h2
  ·exact ringsK_all h.1 (by omega) y h2
  ·rw [List.mem_singleton.1 h2]; exact h.2.1
theorem ringsK_le {rg : List (Int × Int)} : ∀ {k j : Nat}, j ≤ k → ringsK rg k = true → ringsK rg j = true
 | 0, j, hj, h => by obtain rfl : j = 0 := by omega
                     exact h
 | k + 1, j, hj, h => by
  by_cases e : j = k + 1
  ·rw [e]; exact h
  ·unfold ringsK at h
   rw [Bool.and_eq_true] at h
   exact ringsK_le (by omega) h.1
theorem ringsB_no {rg : List (Int × Int)} {k : Nat} (hk : k ≤ rg.length) (h : ringsK rg k = false) : ringsB rg = false := by
 unfold ringsB
 rcases Bool.eq_false_or_eq_true (ringsK rg rg.length) with h1 | h1
 ·rw [ringsK_le hk h1] at h; cases h
 ·rw [h1, Bool.and_false]
def markF (l : List (Int × Int)) (b : Int) (k : Nat) : List Bool := (List.range 128).map fun (j : Nat) => usdB l j || inR j (b, (k : Int))
theorem markF_len (l : List (Int × Int)) (b : Int) (k : Nat) : (markF l b k).length = 128 := by simp [markF]
theorem markF_zero (l : List (Int × Int)) (b b' : Int) : markF l b 0 = markF l b' 0 := by
 unfold markF
 refine List.map_congr_left fun j _ => ?_
 have e : ∀ c : Int, inR j (c, ((0 : Nat) : Int)) = false := fun c => by
  unfold inR; rw [decide_eq_false_iff_not]; simp only; omega
 rw [e, e]
theorem markF_get {l : List (Int × Int)} {b : Int} {k : Nat} {j : Nat} (hj : j < 128) : (markF l b k)[j]? = some (usdB l j || inR j (b, (k : Int))) := by
 unfold markF
 rw [List.getElem?_map, List.getElem?_range hj]; rfl
theorem markF_next {l : List (Int × Int)} {b : Int} {k m : Nat} (hm : b + k = m) (h : m < 128) : (markF l b k).set m true = markF l b (k + 1) := by
 apply List.ext_getElem?
 intro j
 rw [List.getElem?_set, markF_len]
 by_cases hj : j < 128
 ·rw [markF_get hj, markF_get hj]
  by_cases e : m = j
  ·subst e
   rw [if_pos rfl, if_pos h]
   have e1 : inR (m : Int) (b, ((k + 1 : Nat) : Int)) = true := inR_iff.2 (by simp only; omega)
   rw [e1, Bool.or_true]
  ·rw [if_neg e]
   have e1 : inR (j : Int) (b, ((k + 1 : Nat) : Int)) = inR (j : Int) (b, (k : Int)) := by
    unfold inR
    rw [decide_eq_decide]
    simp only; omega
   rw [e1]
 ·have e0 : (markF l b k)[j]? = none := List.getElem?_eq_none (by rw [markF_len]; omega)
  have e1 : (markF l b (k + 1))[j]? = none := List.getElem?_eq_none (by rw [markF_len]; omega)
  rw [e0, e1]
  rw [if_neg (by omega)]
theorem markF_ring {l : List (Int × Int)} {x : Int × Int} {b : Int} {n : Nat} (hn : x.2 = n) : markF l x.1 n = markF (l ++ [x]) b 0 := by
 unfold markF
 refine List.map_congr_left fun j _ => ?_
 have e : inR j (b, ((0 : Nat) : Int)) = false := by
  unfold inR; rw [decide_eq_false_iff_not]; simp only; omega
 rw [e]
 unfold usdB
 rw [List.any_append, Bool.or_false, List.any_cons, List.any_nil, Bool.or_false, ← hn]
theorem used_all {rg : List (Int × Int)} {j : Nat} {b : Int} (hj : j < 128) : (markF rg b 0)[j]? = some (usdB rg j) := by
 rw [markF_get hj]
 have e : inR j (b, ((0 : Nat) : Int)) = false := by
  unfold inR; rw [decide_eq_false_iff_not]; simp only; omega
 rw [e, Bool.or_false]
end Go.Proofs.YtdiflpbioohddaaDoor
end
section
namespace Go.Proofs.YtdiflpbioohddaaDoor
def nextR (x : Int) : Int := if 7 ≤ x + 1 then 1 else x + 1
theorem nextR_in {x : Int} (h : 0 ≤ x) : 1 ≤ nextR x ∧ nextR x ≤ 6 := by unfold nextR; split <;> omega
def termI (t : Int × Int) : Ins := if t.1 = 0 then ⟨2, 0, 0, t.2⟩ else ⟨3, t.1 - 1, 0, t.2⟩
def nodeI (r m : Int) (ts : List (Int × Int)) : List Ins := ⟨1, 0, 0, 0⟩ :: (ts.map termI ++ [⟨5, r, 0, 0⟩, ⟨7, r, m, 0⟩])
def genC (st : Int) (ns : List (List (Int × Int))) : Nat → List Ins × Int
 | 0 => ([⟨9, 0, 0, 0⟩], 0)
 | k + 1 => ((genC st ns k).1 ++ nodeI (nextR (genC st ns k).2) (st + k) (ns.getD k []), nextR (genC st ns k).2)
def fetchI (v r : Int) : List Ins := if v = 0 then [] else [⟨6, nextR r, v - 1, 0⟩]
def fetchR (v r : Int) : Int := if v = 0 then 0 else nextR r
def fetchL (v r : Int) : Int := if v = 0 then r else nextR r
structure AdvS where
 code : List Ins
 pend : List Bool
 saved : List Bool
 last : Int
def needB (src : List Int) (s : AdvS) (k : Nat) : Bool := (List.range src.length).any fun j => s.pend.getD j false && (!s.saved.getD j false && decide (src.getD j 0 = (k : Int) + 1))
def canB (src : List Int) (s : AdvS) (k : Nat) : Bool := s.pend.getD k false && !needB src s k
def moveS (src : List Int) (s : AdvS) (k : Nat) : AdvS :=
 if s.saved.getD k false then { s with code := s.code ++ [⟨7, 7, k, 0⟩], pend := s.pend.set k false }
 else { s with code := s.code ++ fetchI (src.getD k 0) s.last ++ [⟨7, fetchR (src.getD k 0) s.last, k, 0⟩], pend := s.pend.set k false, last := fetchL (src.getD k 0) s.last }
def tryS (src : List Int) (s : AdvS) (k : Nat) : AdvS := if canB src s k then moveS src s k else s
def passS (src : List Int) (s : AdvS) : Nat → AdvS
 | 0 => s
 | k + 1 => tryS src (passS src s k) k
def AdvS.left (s : AdvS) : Nat := s.pend.count true
def brkS (src : List Int) (s : AdvS) (k : Nat) : AdvS :=
 { s with code := s.code ++ [⟨6, 7, k, 0⟩], saved := (List.range src.length).map fun j => s.saved.getD j false || (s.pend.getD j false && decide (src.getD j 0 = (k : Int) + 1)) }
def firstP (s : AdvS) : Nat := s.pend.findIdx fun b => b
def roundS (src : List Int) (s : AdvS) : AdvS := if (passS src s src.length).left < s.left then passS src s src.length else brkS src s (firstP s)
def advGo (src : List Int) : Nat → AdvS → AdvS
 | 0, s => s
 | f + 1, s => if s.left = 0 then s else advGo src f (roundS src s)
def advM (src : List Int) (s : AdvS) : Nat := 2 * s.left + if (List.range src.length).any (canB src s) then 0 else 1
structure AdvW (src : List Int) (s : AdvS) : Prop where
 pl : s.pend.length = src.length
 sl : s.saved.length = src.length
theorem count_set {l : List Bool} {k : Nat} (h : l.getD k false = true) : (l.set k false).count true + 1 = l.count true := by
 induction l generalizing k with
 | nil => simp at h
 | cons a l ih =>
  cases k with
  | zero =>
   have : a = true := by simpa using h
   subst this
   simp
  | succ k =>
   have := ih (k := k) (by simpa using h)
   rw [List.set_cons_succ, List.count_cons, List.count_cons]
   omega
theorem move_left {src : List Int} {s : AdvS} {k : Nat} (h : s.pend.getD k false = true) : (moveS src s k).left + 1 = s.left := by
 unfold moveS AdvS.left
 split <;> exact count_set h
theorem canB_pend {src : List Int} {s : AdvS} {k : Nat} (h : canB src s k = true) : s.pend.getD k false = true := by
 unfold canB at h
 simp only [Bool.and_eq_true] at h
 exact h.1
theorem step_left {src : List Int} {s : AdvS} {k : Nat} : (tryS src s k).left ≤ s.left := by
 unfold tryS
 split
 ·rename_i h
  have := move_left (src := src) (canB_pend h)
  omega
 ·exact Nat.le_refl _
theorem pass_same {src : List Int} {s : AdvS} : ∀ k, (∀ j, j < k → canB src s j = false) → passS src s k = s
 | 0, _ => rfl
 | k + 1, h => by
  have := pass_same k fun j hj => h j (by omega)
  show tryS src (passS src s k) k = s
  rw [this]
  unfold tryS
  rw [if_neg (by rw [h k (by omega)]; decide)]
theorem pass_first {src : List Int} {s : AdvS} : ∀ n, (∃ k, k < n ∧ canB src s k = true) → (passS src s n).left < s.left
 | 0, ⟨_, hk, _⟩ => absurd hk (Nat.not_lt_zero _)
 | n + 1, h => by
  by_cases h' : ∃ k, k < n ∧ canB src s k = true
  ·exact Nat.lt_of_le_of_lt step_left (pass_first n h')
  ·have hno : ∀ j, j < n → canB src s j = false := fun j hj => by
    cases e : canB src s j with
    | false => rfl
    | true => exact absurd ⟨j, hj, e⟩ h'
   obtain ⟨k, hk, hc⟩ := h
   have hkn : k = n := by
    rcases Nat.lt_or_ge k n with hlt | hge
    ·rw [hno k hlt] at hc; cases hc
    ·omega
   subst hkn
   show (tryS src (passS src s k) k).left < s.left
   rw [pass_same k hno]
   unfold tryS
   rw [if_pos hc]
   have := move_left (src := src) (canB_pend hc)
   omega
theorem pass_none {src : List Int} {s : AdvS} {n : Nat} (h : ¬ (passS src s n).left < s.left) : ∀ j, j < n → canB src s j = false := fun j hj => by
 cases e : canB src s j with
 | false => rfl
 | true => exact absurd (pass_first n ⟨j, hj, e⟩) h
theorem first_pend {s : AdvS} (h : s.left ≠ 0) : firstP s < s.pend.length ∧ s.pend.getD (firstP s) false = true := by
 have hm : true ∈ s.pend := List.count_pos_iff.1 (by unfold AdvS.left at h; omega)
 have hlt : firstP s < s.pend.length := List.findIdx_lt_length.2 ⟨true, hm, rfl⟩
 refine ⟨hlt, ?_⟩
 rw [List.getD_eq_getElem?_getD, List.getElem?_eq_getElem hlt]
 exact List.findIdx_getElem (w := hlt)
theorem getD_mapR {n j : Nat} {f : Nat → Bool} (h : j < n) : ((List.range n).map f).getD j false = f j := by
 rw [List.getD_eq_getElem?_getD, List.getElem?_map, List.getElem?_range h]; rfl
theorem brk_can {src : List Int} {s : AdvS} {k : Nat} (h : s.pend.getD k false = true) : canB src (brkS src s k) k = true := by
 unfold canB
 have h1 : (brkS src s k).pend.getD k false = true := h
 have h2 : needB src (brkS src s k) k = false := by
  unfold needB
  rw [List.any_eq_false]
  intro j hj
  have hj := List.mem_range.1 hj
  show ¬ (s.pend.getD j false && (!((List.range src.length).map fun j => s.saved.getD j false || (s.pend.getD j false && decide (src.getD j 0 = (k : Int) + 1))).getD j false && decide (src.getD j 0 = (k : Int) + 1))) = true
  rw [getD_mapR hj]
  cases s.pend.getD j false <;> cases s.saved.getD j false <;> cases decide (src.getD j 0 = (k : Int) + 1) <;> decide
 rw [h1, h2]; rfl
theorem round_less {src : List Int} {s : AdvS} (hw : AdvW src s) (h : s.left ≠ 0) : advM src (roundS src s) < advM src s := by
 unfold roundS
 by_cases hm : (passS src s src.length).left < s.left
 ·rw [if_pos hm]
  unfold advM
  split <;> split <;> omega
 ·rw [if_neg hm]
  have hno := pass_none hm
  have e : (List.range src.length).any (canB src s) = false := by
   rw [List.any_eq_false]
   intro j hj
   rw [hno j (List.mem_range.1 hj)]; decide
  obtain ⟨h1, h2⟩ := first_pend h
  have e2 : (List.range src.length).any (canB src (brkS src s (firstP s))) = true := List.any_eq_true.2 ⟨firstP s, List.mem_range.2 (by rw [← hw.pl]; exact h1), brk_can h2⟩
  unfold advM
  rw [e, e2, if_pos rfl, if_neg (by decide)]
  show 2 * s.left + 0 < _
  omega
theorem AdvW.move {src : List Int} {s : AdvS} {k : Nat} (h : AdvW src s) : AdvW src (moveS src s k) := by
 unfold moveS
 split
 ·exact ⟨by rw [List.length_set]; exact h.pl, h.sl⟩
 ·exact ⟨by rw [List.length_set]; exact h.pl, h.sl⟩
theorem AdvW.step {src : List Int} {s : AdvS} {k : Nat} (h : AdvW src s) : AdvW src (tryS src s k) := by
 unfold tryS
 split
 ·exact h.move
 ·exact h
theorem AdvW.pass {src : List Int} {s : AdvS} (h : AdvW src s) : ∀ k, AdvW src (passS src s k)
 | 0 => h
 | k + 1 => (h.pass k).step
theorem AdvW.brk {src : List Int} {s : AdvS} {k : Nat} (h : AdvW src s) : AdvW src (brkS src s k) := ⟨h.pl, by unfold brkS; simp⟩
theorem AdvW.round {src : List Int} {s : AdvS} (h : AdvW src s) : AdvW src (roundS src s) := by
 unfold roundS
 split
 ·exact h.pass _
 ·exact h.brk
theorem adv_done {src : List Int} : ∀ f s, AdvW src s → advM src s ≤ f → (advGo src f s).left = 0
 | 0, s, _, h => by
  show s.left = 0
  unfold advM at h; omega
 | f + 1, s, hw, h => by
  show (if s.left = 0 then s else advGo src f (roundS src s)).left = 0
  by_cases h0 : s.left = 0
  ·rw [if_pos h0]; exact h0
  ·rw [if_neg h0]
   exact adv_done f _ hw.round (by have := round_less hw h0; omega)
theorem adv_stop {src : List Int} {s : AdvS} (h : s.left = 0) : ∀ f, advGo src f s = s
 | 0 => rfl
 | f + 1 => by
  show (if s.left = 0 then s else _) = s
  rw [if_pos h]
theorem adv_next {src : List Int} {s : AdvS} {f : Nat} (h : s.left ≠ 0) : advGo src (f + 1) s = advGo src f (roundS src s) := by
 show (if s.left = 0 then s else _) = _
 rw [if_neg h]
theorem adv_ind {src : List Int} {P : AdvS → Prop} (hmove : ∀ s k, AdvW src s → k < src.length → canB src s k = true → P s → P (moveS src s k))
  (hbrk : ∀ s k, AdvW src s → k < src.length → s.pend.getD k false = true → (∀ j, j < src.length → canB src s j = false) → P s → P (brkS src s k)) :
  ∀ f s, AdvW src s → P s → P (advGo src f s)
 | 0, _, _, h => h
 | f + 1, s, hw, h => by
  by_cases h0 : s.left = 0
  ·rw [adv_stop h0]; exact h
  ·rw [adv_next h0]
   refine adv_ind hmove hbrk f _ hw.round ?_
   have hp : ∀ k, k ≤ src.length → P (passS src s k) := fun k => by
    induction k with
    | zero => exact fun _ => h
    | succ k ih =>
     intro hk
     show P (tryS src (passS src s k) k)
     unfold tryS
     split
     ·rename_i hc
      exact hmove _ k (hw.pass k) (by omega) hc (ih (by omega))
     ·exact ih (by omega)
   unfold roundS
   split
   ·exact hp _ (Nat.le_refl _)
   ·rename_i hm
    obtain ⟨h1, h2⟩ := first_pend h0
    exact hbrk s _ hw (by rw [← hw.pl]; exact h1) h2 (pass_none hm) h
def pend0 (src : List Int) : List Bool := (List.range src.length).map fun k => decide (src.getD k 0 ≠ (k : Int) + 1)
def adv0 (code : List Ins) (last : Int) (src : List Int) : AdvS := ⟨code, pend0 src, List.replicate src.length false, last⟩
theorem adv0_w {code : List Ins} {last : Int} {src : List Int} : AdvW src (adv0 code last src) := ⟨by unfold adv0 pend0; simp, by unfold adv0; simp⟩
def advF (code : List Ins) (last : Int) (src : List Int) : AdvS := advGo src (2 * src.length + 1) (adv0 code last src)
theorem count_le {l : List Bool} : l.count true ≤ l.length := List.count_le_length
theorem adv0_m {code : List Ins} {last : Int} {src : List Int} : advM src (adv0 code last src) ≤ 2 * src.length + 1 := by
 have h : (adv0 code last src).left ≤ src.length := by
  have := count_le (l := (adv0 code last src).pend)
  rw [adv0_w.pl] at this
  exact this
 unfold advM
 split <;> omega
def bodyC (st out : Int) (ns : List (List (Int × Int))) : List Ins × Int :=
 ((genC st ns ns.length).1 ++ fetchI out (genC st ns ns.length).2 ++ [⟨10, fetchR out (genC st ns ns.length).2, 0, 0⟩], fetchL out (genC st ns ns.length).2)
def compC (st out : Int) (ns : List (List (Int × Int))) (nx : List Int) : List Ins := (advF (bodyC st out ns).1 (bodyC st out ns).2 nx).code ++ [⟨0, 0, 0, 0⟩]
end Go.Proofs.YtdiflpbioohddaaDoor
end
