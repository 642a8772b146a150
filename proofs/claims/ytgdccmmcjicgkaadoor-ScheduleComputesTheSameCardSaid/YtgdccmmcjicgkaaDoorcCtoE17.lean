/- Several texts in one: C E23 S1 E17. -/
import Derived.Test.YtgdccmmcjicgkaaDoorcAtoG2
import Derived.Test.YtgdccmmcjicgkaaDoorcE13toE16
import Derived.Test.YtgdccmmcjicgkaaDoorcE5toE7
set_option linter.unusedVariables false
set_option linter.unusedSimpArgs false
section
namespace Go.Proofs.YtgdccmmcjicgkaaDoor
open Go.RowKit
def mkW (k least most above : Int) : Int × Int × Int × Int :=
  (least + withinF k 1099511627776 % (most - least + 1),
   max (least + withinF k 1099511627776 % (most - least + 1) - 1 - above - withinF k 1099511627776 / (most - least + 1) % 2) 0,
   1 + withinF k 1099511627776 / (most - least + 1) / 2 % 3,
   1 + withinF k 1099511627776 / (most - least + 1) / 2 / 3 % 2)
abbrev wordT (u : Int × Int × Int × Int) : Value := wordV u.1 u.2.1 u.2.2.1 u.2.2.2
theorem wd_WordD (k : Int) (w : World) : Calls Tryd.prog 65 #[.int .i64 k, .int .i64 6, .int .i64 12, .int .i64 2] w fun e w' => e = .returned (wordT (mkW k 6 12 2)) ∧ Below w.heap.size w w' := by
  obtain ⟨g1, g2⟩ := within_in (m := 1099511627776) (by decide) k
  obtain ⟨y, hy⟩ : ∃ y, withinF k 1099511627776 = y := ⟨_, rfl⟩
  have HW : Hid (mkW k 6 12 2 = (6 + y % 7, max (6 + y % 7 - 1 - 2 - y / 7 % 2) 0, 1 + y / 7 / 2 % 3, 1 + y / 7 / 2 / 3 % 2)) := by unfold mkW; rw [hy]; exact rfl
  rw [hy] at g1 g2
  go_enter Tryd.func65, Tryd.ntmps65
  go_wp2_with (go_at_call 26; refine (wd_Within _ _ _ (by decide)).mono ?_; rintro e w' ⟨rfl, rfl⟩)
  refine bodyPost_ret (v := wordT (mkW k 6 12 2)) (by rw [HW.out]; simp [results, Tryd.results65, go_sem] <;> omega) rfl ⟨rfl, ?_⟩
  exact ((Below.refl _ _).alloc (Nat.le_refl _) _).alloc (by simp) _
theorem mkWD_ok (k : Int) : okW (mkW k 6 12 2).1 (mkW k 6 12 2).2.1 (mkW k 6 12 2).2.2.1 (mkW k 6 12 2).2.2.2 = true := by
  obtain ⟨g1, g2⟩ := within_in (m := 1099511627776) (by decide) k
  rw [okW_iff]
  unfold mkW
  dsimp only
  omega
theorem wd_WordC (k : Int) (w : World) : Calls Tryd.prog 65 #[.int .i64 k, .int .i64 6, .int .i64 9, .int .i64 1] w fun e w' => e = .returned (wordT (mkW k 6 9 1)) ∧ Below w.heap.size w w' := by
  obtain ⟨g1, g2⟩ := within_in (m := 1099511627776) (by decide) k
  obtain ⟨y, hy⟩ : ∃ y, withinF k 1099511627776 = y := ⟨_, rfl⟩
  have HW : Hid (mkW k 6 9 1 = (6 + y % 4, max (6 + y % 4 - 1 - 1 - y / 4 % 2) 0, 1 + y / 4 / 2 % 3, 1 + y / 4 / 2 / 3 % 2)) := by unfold mkW; rw [hy]; exact rfl
  rw [hy] at g1 g2
  go_enter Tryd.func65, Tryd.ntmps65
  go_wp2_with (go_at_call 26; refine (wd_Within _ _ _ (by decide)).mono ?_; rintro e w' ⟨rfl, rfl⟩)
  refine bodyPost_ret (v := wordT (mkW k 6 9 1)) (by rw [HW.out]; simp [results, Tryd.results65, go_sem] <;> omega) rfl ⟨rfl, ?_⟩
  exact ((Below.refl _ _).alloc (Nat.le_refl _) _).alloc (by simp) _
theorem mkWC_ok (k : Int) : okW (mkW k 6 9 1).1 (mkW k 6 9 1).2.1 (mkW k 6 9 1).2.2.1 (mkW k 6 9 1).2.2.2 = true := by
  obtain ⟨g1, g2⟩ := within_in (m := 1099511627776) (by decide) k
  rw [okW_iff]
  unfold mkW
  dsimp only
  omega
theorem wd_Data (k : Int) (w : World) : Calls Tryd.prog 33 #[.int .i64 k] w fun e w' => e = .returned (wordT (mkW k 6 12 2)) ∧ Below w.heap.size w w' := by
  go_enter Tryd.func33, Tryd.ntmps33
  go_wp2_with (go_at_call 65; refine (wd_WordD _ _).mono ?_; rintro e w1 ⟨rfl, hb1⟩; obtain ⟨hc1, hf1⟩ := bcell hb1)
  refine bodyPost_ret (v := wordT (mkW k 6 12 2)) (by simp [results, Tryd.results33, go_sem, hc1]) rfl ⟨rfl, ?_⟩
  have hb : Below w.heap.size w w1 := ((Below.refl _ _).alloc (Nat.le_refl _) _).trans (hb1.mono (by simp))
  exact (((hb.setCell (by simp) _).setCell (by simp) _).setCell (by simp) _).setCell (by simp) _
theorem wd_Coef (k : Int) (w : World) : Calls Tryd.prog 34 #[.int .i64 k] w fun e w' => e = .returned (wordT (mkW k 6 9 1)) ∧ Below w.heap.size w w' := by
  go_enter Tryd.func34, Tryd.ntmps34
  go_wp2_with (go_at_call 65; refine (wd_WordC _ _).mono ?_; rintro e w1 ⟨rfl, hb1⟩; obtain ⟨hc1, hf1⟩ := bcell hb1)
  refine bodyPost_ret (v := wordT (mkW k 6 9 1)) (by simp [results, Tryd.results34, go_sem, hc1]) rfl ⟨rfl, ?_⟩
  have hb : Below w.heap.size w w1 := ((Below.refl _ _).alloc (Nat.le_refl _) _).trans (hb1.mono (by simp))
  exact (((hb.setCell (by simp) _).setCell (by simp) _).setCell (by simp) _).setCell (by simp) _
end Go.Proofs.YtgdccmmcjicgkaaDoor
end
section
namespace Go.Proofs.YtgdccmmcjicgkaaDoor
open Go.RowKit
def encR (x : Int × Int) : List Int := [x.1, x.2]
def rgCells (x : Int × Int) : List Value := [.int .i64 x.1, .int .i64 x.2]
def RingsAt (w : World) (A : Option Addr) (l : List (Int × Int)) : Prop := ∀ (k : Nat) x, l[k]? = some x → ∃ ad, A = some ad ∧ ad.spot = none ∧ ad.block < w.heap.size ∧ w.rangeAt ad.block (ad.off + k * 2) (rgCells x) ∧ I64 x.1 ∧ I64 x.2
theorem RingsAt.nil {w : World} {A : Option Addr} : RingsAt w A [] := fun k x h => by simp at h
theorem RingsAt.grow {w w' : World} {A : Option Addr} {l : List (Int × Int)} (h : RingsAt w A l) (hb : Below w.heap.size w w') : RingsAt w' A l := fun k i hk => by
  obtain ⟨ad, e, h1, h2, h3, h4⟩ := h k i hk
  exact ⟨ad, e, h1, Nat.lt_of_lt_of_le h2 hb.size, range_keepI h3 h2 hb, h4⟩
theorem ring_cells {w : World} {x : Int × Int} {ad : Addr} {n : Nat} (hs : ad.spot = none) (hr : w.rangeAt ad.block (ad.off + n) (rgCells x)) :
    w.cell? (ad.add n) = some (.int .i64 x.1) ∧ w.cell? ⟨(ad.add n).block, (ad.add n).off + 1, none⟩ = some (.int .i64 x.2) := by
  rw [add_noneI hs]
  exact ⟨hr 0 _ rfl, hr 1 _ rfl⟩
theorem flatR_get {l : List (Int × Int)} {k j : Nat} {x : Int × Int} (h : l[k]? = some x) (hj : j < 2) : ((l.flatMap encR).map (Value.int .i64))[k * 2 + j]? = (rgCells x)[j]? := by
  rw [List.getElem?_map, flat_get (enc := encR) (sz := 2) (fun _ => rfl) l k j x h hj, ← List.getElem?_map]; rfl
theorem RingsAt.row {w : World} {A : Option Addr} {l : List (Int × Int)} (h : RingsAt w A l) : ∀ j u, ((l.flatMap encR).map (Value.int .i64))[j]? = some u → ∃ ad, A = some ad ∧ w.cell? (ad.add j) = some u := fun j u hu => by
  have hj : j < l.length * 2 := by
    have := (List.getElem?_eq_some_iff.1 hu).1
    rw [List.length_map, flat_length (enc := encR) (sz := 2) (fun _ => rfl)] at this
    exact this
  have hk : j / 2 < l.length := by omega
  have ht : l[j / 2]? = some l[j / 2] := List.getElem?_eq_getElem hk
  obtain ⟨ad, e, hs, -, hr, -⟩ := h _ _ ht
  refine ⟨ad, e, ?_⟩
  have ej : j = j / 2 * 2 + j % 2 := by omega
  rw [ej, flatR_get ht (by omega)] at hu
  rw [add_noneI hs, show ad.off + j = ad.off + j / 2 * 2 + j % 2 by omega]
  exact hr (j % 2) u hu
theorem RingsAt.grown {w w' : World} {A : Option Addr} {l : List (Int × Int)} {r : Option Nat} (h : RingsAt w A l) (hg : w.grownBy w' r) (hn : ∀ a, A = some a → some a.block ≠ r) : RingsAt w' A l := fun k i hk => by
  obtain ⟨ad, e, h1, h2, h3, h4⟩ := h k i hk
  exact ⟨ad, e, h1, Nat.lt_of_lt_of_le h2 hg.size, fun j v hj => hg.cell (h3 j v hj) (hn ad e), h4⟩
theorem RingsAt.ok {w : World} {A : Option Addr} {l : List (Int × Int)} (h : RingsAt w A l) : ∀ x ∈ l, I64 x.1 ∧ I64 x.2 := fun x hx => by
  obtain ⟨k, hk, rfl⟩ := List.getElem_of_mem hx
  obtain ⟨ad, -, -, -, -, h4⟩ := h k _ (List.getElem?_eq_getElem hk)
  exact h4
theorem info_ring : (Tryd.prog.info? 64).map (fun i => (i.zero, i.size, i.bytes)) = some (some (.agg #[.int .i64 0, .int .i64 0]), 2, 16) := by kernel_rfl
theorem und_ring : Tryd.prog.underlying 41 = some (.slice 64) := Tryd.underlying41
theorem size_ring : (Tryd.prog.info? 64).map (·.size) = some 2 := by kernel_rfl
theorem built_ring1 (x : Int × Int) : builtS Tryd.prog 64 1 [(0, .agg #[.int .i64 x.1, .int .i64 x.2])] = some ((rgCells x).toArray) := by kernel_rfl
def OwnRg (base : Nat) (w : World) (v : Value) (l : List (Int × Int)) : Prop := w.ownsRow base 64 2 v l.length ((l.flatMap encR).map (Value.int .i64)) ∧ ∀ i ∈ l, I64 i.1 ∧ I64 i.2
theorem OwnRg.nil {base : Nat} {w : World} : OwnRg base w (.slice none 0 0) [] := ⟨World.ownsRow_nil _ _ _ _, by simp⟩
theorem OwnRg.grow {base : Nat} {w w' : World} {v : Value} {l : List (Int × Int)} (h : OwnRg base w v l) (hb : Below w.heap.size w w') : OwnRg base w' v l := ⟨own_grow h.1 hb, h.2⟩
theorem OwnRg.base {base base' : Nat} {w : World} {v : Value} {l : List (Int × Int)} (h : OwnRg base w v l) (hb : base' ≤ base) : OwnRg base' w v l := ⟨own_base h.1 hb, h.2⟩
theorem OwnRg.store {base g k : Nat} {w : World} {v u : Value} {l : List (Int × Int)} (h : OwnRg base w v l) (hg : g < base) : OwnRg base (w.setCell ⟨g, k, none⟩ u) v l := ⟨own_store h.1 hg, h.2⟩
theorem OwnRg.ge {base : Nat} {w : World} {v : Value} {l : List (Int × Int)} (h : OwnRg base w v l) : ∀ k, v.ownBlock = some k → base ≤ k := fun k hk => (h.1.lt k hk).1
theorem OwnRg.form {base : Nat} {w : World} {v : Value} {l : List (Int × Int)} (h : OwnRg base w v l) : ∃ A c, v = .slice A l.length c ∧ l.length ≤ c ∧ RingsAt w A l := by
  obtain ⟨A, c, rfl, hc⟩ := own_form h.1
  refine ⟨A, c, rfl, hc, fun k i hk => ?_⟩
  have hc4 : ∀ j v, (rgCells i)[j]? = some v → ∃ g, A = some ⟨g, 0, none⟩ ∧ g < w.heap.size ∧ w.cell? ⟨g, k * 2 + j, none⟩ = some v := fun j v hj => by
    have hj4 : j < 2 := (List.getElem?_eq_some_iff.1 hj).1
    obtain ⟨g, e0, hg, d0⟩ := own_cells h.1 (k := k * 2 + j) (v := v) (by rw [flatR_get hk hj4]; exact hj)
    exact ⟨g, e0, hg, d0⟩
  obtain ⟨g, e0, hg, d0⟩ := hc4 0 _ rfl
  refine ⟨⟨g, 0, none⟩, e0, rfl, hg, fun j v hj => ?_, h.2 i (List.mem_of_getElem? hk)⟩
  obtain ⟨g1, e1, hg1, d1⟩ := hc4 j v hj
  rw [e0] at e1
  injection e1 with e1; injection e1 with e1
  subst e1
  rw [show (⟨g, 0, none⟩ : Addr).off + k * 2 + j = k * 2 + j by show 0 + k * 2 + j = _; omega]
  exact d1
theorem OwnRg.single {w : World} {i : Int × Int} (hi : I64 i.1 ∧ I64 i.2) : OwnRg w.heap.size (w.alloc (.cells (rgCells i).toArray 64)) (.slice (some ⟨w.heap.size, 0, none⟩) 1 1) [i] :=
  ⟨World.ownsRow_lit w (rgCells i).toArray 1 (Nat.le_refl _) (by unfold maxLen; omega) (by kernel_rfl), fun x hx => by rw [List.mem_singleton.1 hx]; exact hi⟩
theorem app_ring {ops : Array Oper} {rest : List Oper} {o : Oper} {a : Act} {Q : Exit → Act → World → Prop} (w : World) (hg : o.guard = none) (s x : Operand) (ho : o.op = .call { callee := .builtin .append, args := #[s, x], argTypes := #[41, 41] })
    (base : Nat) {v : Value} {l m : List (Int × Int)} {A : Option Addr} {n c : Nat} (hs : a.eval s = v) (hx : a.eval x = .slice A n c) (hown : OwnRg base w v l) (hI : RingsAt w A m) (hm : m.length = n) (hn : l.length + n ≤ 100000000) (hbase : base ≤ w.heap.size)
    (h : ∀ v' w', OwnRg base w' v' (l ++ m) → w.grownBy w' v.ownBlock → wpList Tryd.prog ops Q rest (a.put o.dst v') w') : wpList Tryd.prog ops Q (o :: rest) a w := by
  subst hm
  refine app_row w hg s x 41 64 (.agg #[.int .i64 0, .int .i64 0]) 2 16 ho und_ring info_ring rfl (by decide) (by decide) base hs hx hown.1 (ys := (m.flatMap encR).map (Value.int .i64)) ?_ hI.row nums_one hn hbase fun v' w' h1 h2 h3 => h v' w' ⟨?_, ?_⟩ h2
  · rw [List.length_map, flat_length (enc := encR) (sz := 2) (fun _ => rfl)]
  · rw [List.flatMap_append, List.map_append, List.length_append]; exact h1
  · intro i hi
    rcases List.mem_append.1 hi with hi | hi
    · exact hown.2 i hi
    · exact hI.ok i hi
theorem bld_ring1 {ops : Array Oper} {rest : List Oper} {o : Oper} {a : Act} {Q : Exit → Act → World → Prop} {w : World} {i : Int × Int} (hgd : o.guard = none) (x : Operand) (ho : o.op = .buildSlice 41 1 #[(0, x)]) (hx : a.eval x = .agg #[.int .i64 i.1, .int .i64 i.2])
    (h : wpList Tryd.prog ops Q rest (a.put o.dst (.slice (some ⟨w.heap.size, 0, none⟩) 1 1)) (w.alloc (.cells (rgCells i).toArray 64))) : wpList Tryd.prog ops Q (o :: rest) a w :=
  wp_bldS hgd 41 64 1 _ ho und_ring 2 size_ring (by decide) (by decide) _ rfl (by show builtS Tryd.prog 64 1 [(0, a.eval x)] = _; rw [hx]; exact built_ring1 i) h
def ringsF (rs : List Int) (n : Nat) : List (Int × Int) := (List.range n).map fun (k : Nat) => (20 + 10 * (k : Int), 1 + withinF (rs.getD k 0) 6)
theorem ringsF_succ (rs : List Int) (n : Nat) : ringsF rs (n + 1) = ringsF rs n ++ [(20 + 10 * (n : Int), 1 + withinF (rs.getD n 0) 6)] := by simp [ringsF, List.range_succ]
theorem ringsF_length (rs : List Int) (n : Nat) : (ringsF rs n).length = n := by simp [ringsF]
def insF (rg : List (Int × Int)) (op a b y : Int) : Ins :=
  if op = 2 then ⟨2, a % 4, 0, y⟩ else if op = 3 then ⟨3, a % 10, 0, y⟩
  else if op = 4 then (if rg.length = 0 then ⟨1, 0, 0, 0⟩ else ⟨4, a % rg.length, a / 10 % (rg.getD (a % rg.length).toNat (0, 1)).2, y⟩)
  else if op = 8 then (if rg.length = 0 then ⟨1, 0, 0, 0⟩ else ⟨8, a % rg.length, b % 4, 0⟩)
  else if op = 5 ∨ op = 9 ∨ op = 10 then ⟨op, a % 4, 0, 0⟩ else if op = 6 ∨ op = 7 then ⟨op, a % 4, b % 10, 0⟩ else if op = 11 then ⟨11, a % 4, b % 4, 0⟩ else ⟨op, 0, 0, 0⟩
def insK (c0 c1 c2 c3 : Int) (rg : List (Int × Int)) (os fs : List Int) (k : Nat) : Ins :=
  insF rg (1 + withinF (os.getD k 0) 11) (withinF (atF fs (2 * (k : Int))) 1000) (withinF (atF fs (2 * (k : Int) + 1)) 1048576) (wordF c0 c1 c2 c3 (withinF (atF fs (2 * (k : Int) + 1)) 1048576 - 524288))
def codeK (c0 c1 c2 c3 : Int) (rg : List (Int × Int)) (os fs : List Int) (n : Nat) : List Ins := (List.range n).map (insK c0 c1 c2 c3 rg os fs)
theorem codeK_succ (c0 c1 c2 c3 : Int) (rg : List (Int × Int)) (os fs : List Int) (n : Nat) : codeK c0 c1 c2 c3 rg os fs (n + 1) = codeK c0 c1 c2 c3 rg os fs n ++ [insK c0 c1 c2 c3 rg os fs n] := by simp [codeK, List.range_succ]
theorem codeK_length (c0 c1 c2 c3 : Int) (rg : List (Int × Int)) (os fs : List Int) (n : Nat) : (codeK c0 c1 c2 c3 rg os fs n).length = n := by simp [codeK]
structure PrgD where
  (d0 d1 d2 d3 c0 c1 c2 c3 : Int)
  (rg : List (Int × Int))
  (code : List Ins)
def prgF (dn cn : Int) (rs os fs : List Int) (most : Nat) : PrgD :=
  let rg := ringsF rs (min rs.length 3)
  ⟨(mkW dn 6 12 2).1, (mkW dn 6 12 2).2.1, (mkW dn 6 12 2).2.2.1, (mkW dn 6 12 2).2.2.2, (mkW cn 6 9 1).1, (mkW cn 6 9 1).2.1, (mkW cn 6 9 1).2.2.1, (mkW cn 6 9 1).2.2.2, rg,
   codeK (mkW cn 6 9 1).1 (mkW cn 6 9 1).2.1 (mkW cn 6 9 1).2.2.1 (mkW cn 6 9 1).2.2.2 rg os fs (min os.length most) ++ [⟨0, 0, 0, 0⟩]⟩
structure PrgA where
  (d : PrgD)
  (RA CA : Option Addr)
  (rc cc : Nat)
def PrgA.lst (u : PrgA) : List Value := [.int .i64 u.d.d0, .int .i64 u.d.d1, .int .i64 u.d.d2, .int .i64 u.d.d3, .int .i64 u.d.c0, .int .i64 u.d.c1, .int .i64 u.d.c2, .int .i64 u.d.c3, .slice u.RA u.d.rg.length u.rc, .slice u.CA u.d.code.length u.cc]
def PrgA.v (u : PrgA) : Value := .agg u.lst.toArray
def PrgAt (w : World) (u : PrgA) : Prop := RingsAt w u.RA u.d.rg ∧ InsAt w u.CA u.d.code
theorem PrgAt.grow {w w' : World} {u : PrgA} (h : PrgAt w u) (hb : Below w.heap.size w w') : PrgAt w' u := ⟨h.1.grow hb, h.2.grow hb⟩
def RetPrg (w : World) (d : PrgD) (e : Ending) (w' : World) : Prop := ∃ u : PrgA, u.d = d ∧ e = .returned u.v ∧ PrgAt w' u ∧ Below w.heap.size w w'
theorem boxI_a {w : World} {g : Nat} {op a b m v : Int} (h : Box w g (⟨op, a, b, m⟩ : Ins).cells) : Box (w.setCell ⟨g, 1, none⟩ (.int .i64 v)) g (⟨op, v, b, m⟩ : Ins).cells := h.set (k := 1) (by show 1 < 4; omega)
theorem boxI_b {w : World} {g : Nat} {op a b m v : Int} (h : Box w g (⟨op, a, b, m⟩ : Ins).cells) : Box (w.setCell ⟨g, 2, none⟩ (.int .i64 v)) g (⟨op, a, v, m⟩ : Ins).cells := h.set (k := 2) (by show 2 < 4; omega)
theorem boxI_m {w : World} {g : Nat} {op a b m v : Int} (h : Box w g (⟨op, a, b, m⟩ : Ins).cells) : Box (w.setCell ⟨g, 3, none⟩ (.int .i64 v)) g (⟨op, a, b, v⟩ : Ins).cells := h.set (k := 3) (by show 3 < 4; omega)
theorem boxI_all {w : World} {g : Nat} {op a b m op' a' b' m' : Int} (h : Box w g (⟨op, a, b, m⟩ : Ins).cells) : Box ((((w.setCell ⟨g, 0, none⟩ (.int .i64 op')).setCell ⟨g, 1, none⟩ (.int .i64 a')).setCell ⟨g, 2, none⟩ (.int .i64 b')).setCell ⟨g, 3, none⟩ (.int .i64 m')) g (⟨op', a', b', m'⟩ : Ins).cells :=
  boxI_m (boxI_b (boxI_a (op := op') (h.set (k := 0) (by show 0 < 4; omega))))
theorem insF_1 (rg : List (Int × Int)) (a b y : Int) : insF rg 1 a b y = ⟨1, 0, 0, 0⟩ := by simp [insF]
theorem insF_2 (rg : List (Int × Int)) (a b y : Int) : insF rg 2 a b y = ⟨2, a % 4, 0, y⟩ := by simp [insF]
theorem insF_3 (rg : List (Int × Int)) (a b y : Int) : insF rg 3 a b y = ⟨3, a % 10, 0, y⟩ := by simp [insF]
theorem insF_40 {rg : List (Int × Int)} (a b y : Int) (h : rg.length = 0) : insF rg 4 a b y = ⟨1, 0, 0, 0⟩ := by simp [insF, h]
theorem insF_80 {rg : List (Int × Int)} (a b y : Int) (h : rg.length = 0) : insF rg 8 a b y = ⟨1, 0, 0, 0⟩ := by simp [insF, h]
theorem insF_4 {rg : List (Int × Int)} {a b y : Int} {m n : Nat} {x : Int × Int} (h : rg.length = n) (hn : 0 < n) (hm : a % (n : Int) = (m : Int)) (hx : rg[m]? = some x) : insF rg 4 a b y = ⟨4, m, a / 10 % x.2, y⟩ := by
  have h0 : rg ≠ [] := by intro e; subst e; simp at h; omega
  have h1 : n ≠ 0 := by omega
  simp [insF, h0, h1, h, hm, List.getD_eq_getElem?_getD, hx]
theorem insF_8 {rg : List (Int × Int)} {a b y : Int} {m n : Nat} (h : rg.length = n) (hn : 0 < n) (hm : a % (n : Int) = (m : Int)) : insF rg 8 a b y = ⟨8, m, b % 4, 0⟩ := by
  have h0 : rg ≠ [] := by intro e; subst e; simp at h; omega
  have h1 : n ≠ 0 := by omega
  simp [insF, h0, h1, h, hm]
theorem insF_5 (rg : List (Int × Int)) (a b y : Int) : insF rg 5 a b y = ⟨5, a % 4, 0, 0⟩ := by simp [insF]
theorem insF_6 (rg : List (Int × Int)) (a b y : Int) : insF rg 6 a b y = ⟨6, a % 4, b % 10, 0⟩ := by simp [insF]
theorem insF_7 (rg : List (Int × Int)) (a b y : Int) : insF rg 7 a b y = ⟨7, a % 4, b % 10, 0⟩ := by simp [insF]
theorem insF_9 (rg : List (Int × Int)) (a b y : Int) : insF rg 9 a b y = ⟨9, a % 4, 0, 0⟩ := by simp [insF]
theorem insF_10 (rg : List (Int × Int)) (a b y : Int) : insF rg 10 a b y = ⟨10, a % 4, 0, 0⟩ := by simp [insF]
theorem insF_11 (rg : List (Int × Int)) (a b y : Int) : insF rg 11 a b y = ⟨11, a % 4, b % 4, 0⟩ := by simp [insF]
theorem insF_ok {rg : List (Int × Int)} {op a b y : Int} (ho : 1 ≤ op ∧ op ≤ 11) (ha : 0 ≤ a ∧ a < 1000) (hb : 0 ≤ b ∧ b < 1048576) (hy : I64 y) (hg : rg.length ≤ 3) (h6 : ∀ x ∈ rg, 1 ≤ x.2 ∧ x.2 ≤ 6) : (insF rg op a b y).ok := by
  obtain ⟨y1, y2⟩ := hy
  have hI : ∀ v : Int, -1000000 ≤ v → v ≤ 1000000 → I64 v := fun v h1 h2 => ⟨by omega, by omega⟩
  have hm : ∀ n : Int, 0 < n → n ≤ 1000000 → I64 (a % n) := fun n h1 h2 => by
    have := Int.emod_nonneg a (show n ≠ 0 by omega)
    have := Int.emod_lt_of_pos a h1
    exact hI _ (by omega) (by omega)
  have hb4 : I64 (b % 4) := hI _ (by omega) (by omega)
  have hb10 : I64 (b % 10) := hI _ (by omega) (by omega)
  have h0 : I64 0 := hI _ (by omega) (by omega)
  have hop : I64 op := hI _ (by omega) (by omega)
  have q1 : I64 1 := hI _ (by omega) (by omega)
  have q2 : I64 2 := hI _ (by omega) (by omega)
  have q3 : I64 3 := hI _ (by omega) (by omega)
  have q4 : I64 4 := hI _ (by omega) (by omega)
  have q8 : I64 8 := hI _ (by omega) (by omega)
  have q11 : I64 11 := hI _ (by omega) (by omega)
  unfold insF Ins.ok
  split
  · exact ⟨q2, hm 4 (by omega) (by omega), h0, y1, y2⟩
  split
  · exact ⟨q3, hm 10 (by omega) (by omega), h0, y1, y2⟩
  split
  · split
    · exact ⟨q1, h0, h0, h0⟩
    · refine ⟨q4, hm _ (by omega) (by omega), ?_, y1, y2⟩
      have hx : ∃ x : Int × Int, rg.getD (a % rg.length).toNat (0, 1) = x ∧ 1 ≤ x.2 ∧ x.2 ≤ 6 := by
        rw [List.getD_eq_getElem?_getD]
        cases e : rg[(a % rg.length).toNat]? with
        | none => exact ⟨_, rfl, by decide, by decide⟩
        | some x => exact ⟨x, rfl, h6 x (List.mem_of_getElem? e)⟩
      obtain ⟨x, ex, x1, x2⟩ := hx
      show I64 (a / 10 % (rg.getD (a % rg.length).toNat (0, 1)).2)
      rw [ex]
      have := Int.emod_nonneg (a / 10) (show x.2 ≠ 0 by omega)
      have := Int.emod_lt_of_pos (a / 10) (show 0 < x.2 by omega)
      exact hI _ (by omega) (by omega)
  split
  · split
    · exact ⟨q1, h0, h0, h0⟩
    · exact ⟨q8, hm _ (by omega) (by omega), hb4, h0⟩
  split
  · exact ⟨hop, hm 4 (by omega) (by omega), h0, h0⟩
  split
  · exact ⟨hop, hm 4 (by omega) (by omega), hb10, h0⟩
  split
  · exact ⟨q11, hm 4 (by omega) (by omega), hb4, h0⟩
  · exact ⟨hop, h0, h0, h0⟩
end Go.Proofs.YtgdccmmcjicgkaaDoor
end
section
namespace Go.Proofs.YtgdccmmcjicgkaaDoor
open Go.RowKit
def ringIn (x : Int × Int) : Bool := decide (1 ≤ x.2 ∧ x.2 ≤ 128 ∧ 0 ≤ x.1 ∧ x.1 ≤ 128 - x.2)
def inR (m : Int) (x : Int × Int) : Bool := decide (x.1 ≤ m ∧ m < x.1 + x.2)
def usdB (rg : List (Int × Int)) (m : Int) : Bool := rg.any (inR m)
def clash (x y : Int × Int) : Bool := decide (x.1 < y.1 + y.2 ∧ y.1 < x.1 + x.2)
def ringsK (rg : List (Int × Int)) : Nat → Bool
  | 0 => true
  | k + 1 => ringsK rg k && (ringIn (rg.getD k (0, 0)) && !(rg.take k).any (clash (rg.getD k (0, 0))))
def ringsB (rg : List (Int × Int)) : Bool := decide (rg.length ≤ 8) && ringsK rg rg.length
def fitI (d : PrgD) (i : Ins) : Bool :=
  (if i.op = 4 then decide (i.a < d.rg.length) && decide (i.b < (d.rg.getD i.a.toNat (0, 0)).2) else if i.op = 8 then decide (i.a < d.rg.length)
   else if i.op = 3 then !usdB d.rg i.a else if i.op = 6 ∨ i.op = 7 then !usdB d.rg i.b else true)
  && (if i.op = 2 ∨ i.op = 3 ∨ i.op = 4 then fitsW d.c0 d.c1 d.c2 d.c3 i.imm || decide (i.imm = 2 ^ d.c1.toNat) else true)
def suitB (d : PrgD) (i : Ins) : Bool := i.formed && fitI d i
def okWD (d : PrgD) : Bool := okW d.d0 d.d1 d.d2 d.d3 && okW d.c0 d.c1 d.c2 d.c3
def goodAt (d : PrgD) (k : Nat) : Bool := suitB d (d.code.getD k Ins.zero) && (decide ((d.code.getD k Ins.zero).op = 0) == decide (k + 1 = d.code.length))
def chkF (d : PrgD) : Int × Int :=
  if okWD d = false then (-1, 2) else if ringsB d.rg = false then (-1, 23) else if inB d.code.length 1 512 = false then (-1, 5)
  else match (List.range d.code.length).find? (fun k => !goodAt d k) with
    | some k => ((k : Int), 21)
    | none => (-1, 0)
def validB (d : PrgD) : Bool := okWD d && (ringsB d.rg && (inB d.code.length 1 512 && (List.range d.code.length).all (goodAt d)))
theorem find_range {p : Nat → Bool} {n k : Nat} (hk : k < n) (h : ∀ j, j < k → p j = false) (hp : p k = true) : (List.range n).find? p = some k := by
  rw [List.find?_range_eq_some]
  exact ⟨hp, List.mem_range.2 hk, fun j hj => by rw [h j hj]; rfl⟩
theorem find_none {p : Nat → Bool} {n : Nat} (h : ∀ j, j < n → p j = false) : (List.range n).find? p = none := by
  rw [List.find?_eq_none]
  intro j hj
  rw [h j (List.mem_range.1 hj)]; simp
theorem chk_words {d : PrgD} (h : okWD d = false) : chkF d = (-1, 2) := by unfold chkF; rw [if_pos h]
theorem chk_rings {d : PrgD} (h : okWD d = true) (h1 : ringsB d.rg = false) : chkF d = (-1, 23) := by unfold chkF; rw [if_neg (by rw [h]; decide), if_pos h1]
theorem chk_many {d : PrgD} (h : okWD d = true) (h1 : ringsB d.rg = true) (h2 : inB d.code.length 1 512 = false) : chkF d = (-1, 5) := by
  unfold chkF; rw [if_neg (by rw [h]; decide), if_neg (by rw [h1]; decide), if_pos h2]
theorem chk_at {d : PrgD} (h : okWD d = true) (h1 : ringsB d.rg = true) (h2 : inB d.code.length 1 512 = true) {k : Nat} (hk : k < d.code.length) (hg : ∀ j, j < k → goodAt d j = true) (hb : goodAt d k = false) : chkF d = ((k : Int), 21) := by
  unfold chkF
  rw [if_neg (by rw [h]; decide), if_neg (by rw [h1]; decide), if_neg (by rw [h2]; decide), find_range (p := fun k => !goodAt d k) hk (fun j hj => by rw [hg j hj]; rfl) (by rw [hb]; rfl)]
theorem chk_ok {d : PrgD} (h : okWD d = true) (h1 : ringsB d.rg = true) (h2 : inB d.code.length 1 512 = true) (hg : ∀ j, j < d.code.length → goodAt d j = true) : chkF d = (-1, 0) := by
  unfold chkF
  rw [if_neg (by rw [h]; decide), if_neg (by rw [h1]; decide), if_neg (by rw [h2]; decide), find_none (p := fun k => !goodAt d k) (fun j hj => by rw [hg j hj]; rfl)]
theorem chk_valid (d : PrgD) : decide ((chkF d).2 = 0) = validB d := by
  unfold validB
  rcases Bool.eq_false_or_eq_true (okWD d) with h | h
  · rcases Bool.eq_false_or_eq_true (ringsB d.rg) with h1 | h1
    · rcases Bool.eq_false_or_eq_true (inB d.code.length 1 512) with h2 | h2
      · rw [h, h1, h2]
        by_cases hg : ∀ j, j < d.code.length → goodAt d j = true
        · rw [chk_ok h h1 h2 hg]
          simp only [Bool.true_and]
          exact (List.all_eq_true.2 fun j hj => hg j (List.mem_range.1 hj)).symm
        · unfold chkF
          rw [if_neg (by rw [h]; decide), if_neg (by rw [h1]; decide), if_neg (by rw [h2]; decide)]
          cases e : (List.range d.code.length).find? (fun k => !goodAt d k) with
          | none =>
            rw [List.find?_eq_none] at e
            exact absurd (fun j hj => by have := e j (List.mem_range.2 hj); simpa using this) hg
          | some k =>
            have h3 := List.find?_some e
            have h4 := List.mem_of_find?_eq_some e
            simp only [Bool.true_and]
            symm
            show _ = false
            rw [List.all_eq_false]
            exact ⟨k, h4, by simpa using h3⟩
      · rw [chk_many h h1 h2, h2]; simp
    · rw [chk_rings h h1, h1]; simp
  · rw [chk_words h, h]; simp
theorem valid_parts {d : PrgD} (h : validB d = true) : okWD d = true ∧ ringsB d.rg = true ∧ (1 ≤ d.code.length ∧ d.code.length ≤ 512) ∧ ∀ j, j < d.code.length → goodAt d j = true := by
  unfold validB at h
  simp only [Bool.and_eq_true] at h
  obtain ⟨h1, h2, h3, h4⟩ := h
  rw [inB_iff] at h3
  exact ⟨h1, h2, by omega, fun j hj => List.all_eq_true.1 h4 j (List.mem_range.2 hj)⟩
theorem inR_iff {m : Int} {x : Int × Int} : inR m x = true ↔ x.1 ≤ m ∧ m < x.1 + x.2 := by unfold inR; rw [decide_eq_true_eq]
theorem ringIn_iff {x : Int × Int} : ringIn x = true ↔ 1 ≤ x.2 ∧ x.2 ≤ 128 ∧ 0 ≤ x.1 ∧ x.1 ≤ 128 - x.2 := by unfold ringIn; rw [decide_eq_true_eq]
theorem clash_iff {x y : Int × Int} : clash x y = true ↔ x.1 < y.1 + y.2 ∧ y.1 < x.1 + x.2 := by unfold clash; rw [decide_eq_true_eq]
theorem clash_used {x : Int × Int} {l : List (Int × Int)} (hx : 1 ≤ x.2) (hl : ∀ y ∈ l, 1 ≤ y.2) : l.any (clash x) = true ↔ ∃ k : Nat, (k : Int) < x.2 ∧ usdB l (x.1 + k) = true := by
  unfold usdB
  constructor
  · intro h
    obtain ⟨y, hy, hc⟩ := List.any_eq_true.1 h
    rw [clash_iff] at hc
    have := hl y hy
    refine ⟨(max y.1 x.1 - x.1).toNat, by omega, List.any_eq_true.2 ⟨y, hy, inR_iff.2 (by omega)⟩⟩
  · rintro ⟨k, hk, h⟩
    obtain ⟨y, hy, hc⟩ := List.any_eq_true.1 h
    rw [inR_iff] at hc
    exact List.any_eq_true.2 ⟨y, hy, clash_iff.2 (by omega)⟩
theorem ringsK_all {rg : List (Int × Int)} : ∀ {k : Nat}, ringsK rg k = true → k ≤ rg.length → ∀ y ∈ rg.take k, ringIn y = true
  | 0, _, _ => by simp
  | k + 1, h, hk => fun y hy => by
    unfold ringsK at h
    simp only [Bool.and_eq_true] at h
    have e : rg.take (k + 1) = rg.take k ++ [rg.getD k (0, 0)] := by
      rw [List.take_succ_eq_append_getElem (show k < rg.length by omega), List.getD_eq_getElem?_getD, List.getElem?_eq_getElem (show k < rg.length by omega)]; rfl
    rw [e] at hy
    rcases List.mem_append.1 hy with h2 | h2
    · exact ringsK_all h.1 (by omega) y h2
    · rw [List.mem_singleton.1 h2]; exact h.2.1
theorem ringsK_le {rg : List (Int × Int)} : ∀ {k j : Nat}, j ≤ k → ringsK rg k = true → ringsK rg j = true
  | 0, j, hj, h => by obtain rfl : j = 0 := by omega
                      exact h
  | k + 1, j, hj, h => by
    by_cases e : j = k + 1
    · rw [e]; exact h
    · unfold ringsK at h
      rw [Bool.and_eq_true] at h
      exact ringsK_le (by omega) h.1
theorem ringsB_no {rg : List (Int × Int)} {k : Nat} (hk : k ≤ rg.length) (h : ringsK rg k = false) : ringsB rg = false := by
  unfold ringsB
  rcases Bool.eq_false_or_eq_true (ringsK rg rg.length) with h1 | h1
  · rw [ringsK_le hk h1] at h; cases h
  · rw [h1, Bool.and_false]
def markF (l : List (Int × Int)) (b : Int) (k : Nat) : List Bool := (List.range 128).map fun (j : Nat) => usdB l j || inR j (b, (k : Int))
theorem markF_len (l : List (Int × Int)) (b : Int) (k : Nat) : (markF l b k).length = 128 := by simp [markF]
theorem markF_zero (l : List (Int × Int)) (b b' : Int) : markF l b 0 = markF l b' 0 := by
  unfold markF
  refine List.map_congr_left fun j _ => ?_
  have e : ∀ c : Int, inR j (c, ((0 : Nat) : Int)) = false := fun c => by
    unfold inR; rw [decide_eq_false_iff_not]; simp only; omega
  rw [e, e]
theorem markF_get {l : List (Int × Int)} {b : Int} {k : Nat} {j : Nat} (hj : j < 128) : (markF l b k)[j]? = some (usdB l j || inR j (b, (k : Int))) := by
  unfold markF
  rw [List.getElem?_map, List.getElem?_range hj]; rfl
theorem markF_next {l : List (Int × Int)} {b : Int} {k m : Nat} (hm : b + k = m) (h : m < 128) : (markF l b k).set m true = markF l b (k + 1) := by
  apply List.ext_getElem?
  intro j
  rw [List.getElem?_set, markF_len]
  by_cases hj : j < 128
  · rw [markF_get hj, markF_get hj]
    by_cases e : m = j
    · subst e
      rw [if_pos rfl, if_pos h]
      have e1 : inR (m : Int) (b, ((k + 1 : Nat) : Int)) = true := inR_iff.2 (by simp only; omega)
      rw [e1, Bool.or_true]
    · rw [if_neg e]
      have e1 : inR (j : Int) (b, ((k + 1 : Nat) : Int)) = inR (j : Int) (b, (k : Int)) := by
        unfold inR
        rw [decide_eq_decide]
        simp only; omega
      rw [e1]
  · have e0 : (markF l b k)[j]? = none := List.getElem?_eq_none (by rw [markF_len]; omega)
    have e1 : (markF l b (k + 1))[j]? = none := List.getElem?_eq_none (by rw [markF_len]; omega)
    rw [e0, e1]
    rw [if_neg (by omega)]
theorem markF_ring {l : List (Int × Int)} {x : Int × Int} {b : Int} {n : Nat} (hn : x.2 = n) : markF l x.1 n = markF (l ++ [x]) b 0 := by
  unfold markF
  refine List.map_congr_left fun j _ => ?_
  have e : inR j (b, ((0 : Nat) : Int)) = false := by
    unfold inR; rw [decide_eq_false_iff_not]; simp only; omega
  rw [e]
  unfold usdB
  rw [List.any_append, Bool.or_false, List.any_cons, List.any_nil, Bool.or_false, ← hn]
theorem used_all {rg : List (Int × Int)} {j : Nat} {b : Int} (hj : j < 128) : (markF rg b 0)[j]? = some (usdB rg j) := by
  rw [markF_get hj]
  have e : inR j (b, ((0 : Nat) : Int)) = false := by
    unfold inR; rw [decide_eq_false_iff_not]; simp only; omega
  rw [e, Bool.or_false]
end Go.Proofs.YtgdccmmcjicgkaaDoor
end
section
namespace Go.Proofs.YtgdccmmcjicgkaaDoor
def issF (t : Int × List Int) (i : Ins) : Int := rdF t.2 t.1 i.rd
def freeF (l : List Ins) (tk : List Bool) (k : Nat) : Bool := !(tk.getD k false) && (depRow l k k).all fun i => tk.getD i.toNat false
def betF (l : List Ins) (H : List Int) (t : Int × List Int) (b : Int × Int) (k : Nat) : Bool :=
  decide (b.1 < 0) || decide (issF t (l.getD k Ins.zero) < b.2) || (decide (issF t (l.getD k Ins.zero) = b.2) && decide (H.getD b.1.toNat 0 < H.getD k 0))
def stepB (l : List Ins) (H : List Int) (t : Int × List Int) (tk : List Bool) (b : Int × Int) (k : Nat) : Int × Int :=
  if freeF l tk k then (if betF l H t b k then ((k : Int), issF t (l.getD k Ins.zero)) else b) else b
def bestB (l : List Ins) (H : List Int) (t : Int × List Int) (tk : List Bool) (m : Nat) : Int × Int := (List.range m).foldl (stepB l H t tk) (-1, 0)
theorem bestB_succ (l : List Ins) (H : List Int) (t : Int × List Int) (tk : List Bool) (m : Nat) : bestB l H t tk (m + 1) = stepB l H t tk (bestB l H t tk m) m := by
  unfold bestB
  rw [List.range_succ, List.foldl_append]; rfl
def grS (l : List Ins) (H : List Int) (s : List Bool × List Ins) : List Bool × List Ins :=
  (s.1.set (bestB l H (tmF s.2) s.1 l.length).1.toNat true, s.2 ++ [l.getD (bestB l H (tmF s.2) s.1 l.length).1.toNat Ins.zero])
def gr (l : List Ins) (H : List Int) : Nat → List Bool × List Ins
  | 0 => (List.replicate l.length false, [])
  | r + 1 => grS l H (gr l H r)
def grF (l : List Ins) : List Ins := (gr l (htF l) l.length).2
def grD (l : List Ins) : List Ins := if fineF l then grF l else []
theorem bestB_spec (l : List Ins) (H : List Int) (t : Int × List Int) (tk : List Bool) : ∀ m, (bestB l H t tk m = (-1, 0) ∧ ∀ k, k < m → freeF l tk k = false) ∨
    (∃ k : Nat, k < m ∧ bestB l H t tk m = ((k : Int), issF t (l.getD k Ins.zero)) ∧ freeF l tk k = true)
  | 0 => .inl ⟨rfl, fun k h => absurd h (Nat.not_lt_zero k)⟩
  | m + 1 => by
    rw [bestB_succ]
    unfold stepB
    by_cases hf : freeF l tk m = true
    · rw [if_pos hf]
      refine .inr ?_
      by_cases hb : betF l H t (bestB l H t tk m) m = true
      · rw [if_pos hb]; exact ⟨m, by omega, rfl, hf⟩
      · rw [if_neg hb]
        rcases bestB_spec l H t tk m with ⟨h1, -⟩ | ⟨k, h1, h2, h3⟩
        · exfalso; apply hb; rw [h1]; rfl
        · exact ⟨k, by omega, h2, h3⟩
    · rw [if_neg hf]
      rcases bestB_spec l H t tk m with ⟨h1, h2⟩ | ⟨k, h1, h2, h3⟩
      · refine .inl ⟨h1, fun k hk => ?_⟩
        by_cases e : k = m
        · subst e; simpa using hf
        · exact h2 k (by omega)
      · exact .inr ⟨k, by omega, h2, h3⟩
theorem least_false (tk : List Bool) : ∀ k : Nat, tk[k]? = some false → ∃ k' : Nat, tk[k']? = some false ∧ ∀ i, i < k' → tk[i]? ≠ some false := fun k => by
  induction k using Nat.strongRecOn with
  | _ k ih =>
    intro h
    by_cases hh : ∃ i, i < k ∧ tk[i]? = some false
    · obtain ⟨i, h1, h2⟩ := hh
      exact ih i h1 h2
    · exact ⟨k, h, fun i hi hc => hh ⟨i, hi, hc⟩⟩
theorem free_some {l : List Ins} {tk : List Bool} (h : false ∈ tk) : ∃ k, k < tk.length ∧ freeF l tk k = true := by
  obtain ⟨k0, hk0⟩ := List.getElem?_of_mem h
  obtain ⟨k, h1, h2⟩ := least_false tk k0 hk0
  have hk := (List.getElem?_eq_some_iff.1 h1).1
  refine ⟨k, hk, ?_⟩
  unfold freeF
  rw [Bool.and_eq_true]
  refine ⟨by rw [List.getD_eq_getElem?_getD, h1]; rfl, ?_⟩
  rw [List.all_eq_true]
  intro v hv
  obtain ⟨i, hi, rfl, -⟩ := depRow_mem hv
  have h3 := h2 i hi
  rw [Int.toNat_natCast, List.getD_eq_getElem?_getD]
  have hi2 : tk[i]? = some tk[i] := List.getElem?_eq_getElem (by omega)
  rw [hi2] at h3 ⊢
  cases e : tk[i] with
  | true => rfl
  | false => rw [e] at h3; exact absurd rfl h3
theorem free_not {l : List Ins} {tk : List Bool} {k : Nat} (h : freeF l tk k = true) (hk : k < tk.length) : tk[k]? = some false := by
  unfold freeF at h
  obtain ⟨h1, -⟩ := Bool.and_eq_true_iff.1 h
  rw [List.getD_eq_getElem?_getD, List.getElem?_eq_getElem hk] at h1
  rw [List.getElem?_eq_getElem hk]
  cases e : tk[k] with
  | true => rw [e] at h1; cases h1
  | false => rfl
theorem gr_inv (l : List Ins) (H : List Int) : ∀ r, r ≤ l.length → (gr l H r).1.length = l.length ∧ (gr l H r).1.count false = l.length - r ∧ (gr l H r).2.length = r ∧ (∀ i ∈ (gr l H r).2, i ∈ l) ∧
    (r < l.length → ∃ k : Nat, k < l.length ∧ bestB l H (tmF (gr l H r).2) (gr l H r).1 l.length = ((k : Int), issF (tmF (gr l H r).2) (l.getD k Ins.zero)) ∧ (gr l H r).1[k]? = some false) := fun r => by
  have main : ∀ r, r ≤ l.length → ((gr l H r).1.length = l.length ∧ (gr l H r).1.count false = l.length - r ∧ (gr l H r).2.length = r ∧ (∀ i ∈ (gr l H r).2, i ∈ l)) →
      (r < l.length → ∃ k : Nat, k < l.length ∧ bestB l H (tmF (gr l H r).2) (gr l H r).1 l.length = ((k : Int), issF (tmF (gr l H r).2) (l.getD k Ins.zero)) ∧ (gr l H r).1[k]? = some false) := by
    intro r hr ⟨h1, h2, h3, h4⟩ hlt
    have hm : false ∈ (gr l H r).1 := by
      rw [← List.count_pos_iff, h2]; omega
    obtain ⟨k, hk, hf⟩ := free_some (l := l) hm
    rcases bestB_spec l H (tmF (gr l H r).2) (gr l H r).1 l.length with ⟨-, h5⟩ | ⟨k', h5, h6, h7⟩
    · rw [h5 k (by omega)] at hf; cases hf
    · exact ⟨k', h5, h6, free_not h7 (by omega)⟩
  induction r with
  | zero =>
    intro hr
    have h0 : ((gr l H 0).1.length = l.length ∧ (gr l H 0).1.count false = l.length - 0 ∧ (gr l H 0).2.length = 0 ∧ (∀ i ∈ (gr l H 0).2, i ∈ l)) := ⟨by simp [gr], by simp [gr], rfl, fun i hi => by simp [gr] at hi⟩
    exact ⟨h0.1, h0.2.1, h0.2.2.1, h0.2.2.2, main 0 hr h0⟩
  | succ r ih =>
    intro hr
    obtain ⟨h1, h2, h3, h4, h5⟩ := ih (by omega)
    obtain ⟨k, hk, hb, hf⟩ := h5 (by omega)
    have e : gr l H (r + 1) = ((gr l H r).1.set k true, (gr l H r).2 ++ [l.getD k Ins.zero]) := by
      show grS l H (gr l H r) = _
      unfold grS
      rw [hb, Int.toNat_natCast]
    have h0 : ((gr l H (r + 1)).1.length = l.length ∧ (gr l H (r + 1)).1.count false = l.length - (r + 1) ∧ (gr l H (r + 1)).2.length = r + 1 ∧ (∀ i ∈ (gr l H (r + 1)).2, i ∈ l)) := by
      rw [e]
      refine ⟨by simp [h1], ?_, by simp [h3], fun i hi => ?_⟩
      · show ((gr l H r).1.set k true).count false = _
        have hkl : k < (gr l H r).1.length := by omega
        rw [List.count_set hkl]
        have e2 : (gr l H r).1[k] = false := by
          have := hf
          rw [List.getElem?_eq_getElem hkl] at this
          exact Option.some.inj this
        rw [e2, h2]
        simp; omega
      · rcases List.mem_append.1 hi with hi | hi
        · exact h4 i hi
        · rw [List.mem_singleton.1 hi, List.getD_eq_getElem?_getD, List.getElem?_eq_getElem hk]
          exact List.getElem_mem hk
    exact ⟨h0.1, h0.2.1, h0.2.2.1, h0.2.2.2, main (r + 1) hr h0⟩
theorem gr_succ {l : List Ins} {H : List Int} {r k : Nat} {f : Int} (hb : bestB l H (tmF (gr l H r).2) (gr l H r).1 l.length = ((k : Int), f)) : gr l H (r + 1) = ((gr l H r).1.set k true, (gr l H r).2 ++ [l.getD k Ins.zero]) := by
  show grS l H (gr l H r) = _
  unfold grS
  rw [hb]; rfl
theorem gr_fine {l : List Ins} (h : fineF l = true) {o : List Ins} (h1 : 1 ≤ o.length) (h2 : o.length ≤ l.length) (h3 : ∀ i ∈ o, i ∈ l) : fineF o = true := by
  have := fineF_len h
  unfold fineF at h ⊢
  obtain ⟨h4, h5⟩ := Bool.and_eq_true_iff.1 h
  rw [List.all_eq_true] at h5
  rw [Bool.and_eq_true]
  refine ⟨?_, List.all_eq_true.2 fun i hi => h5 i (h3 i hi)⟩
  unfold inB
  rw [Bool.and_eq_true, decide_eq_true_eq, decide_eq_true_eq]
  omega
end Go.Proofs.YtgdccmmcjicgkaaDoor
end
