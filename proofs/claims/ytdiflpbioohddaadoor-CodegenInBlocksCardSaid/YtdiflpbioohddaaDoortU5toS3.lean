/- Several texts in one: U5 E24 Od Oi E30 E32 Cb S3. -/
import Derived.Test.YtdiflpbioohddaaDoortUtoU3
import Derived.Test.YtdiflpbioohddaaDoortCtoCa
import Derived.Test.YtdiflpbioohddaaDoortJ2
import Derived.Test.YtdiflpbioohddaaDoortG9toVc
import Derived.Test.YtdiflpbioohddaaDoortAtoV1
import Derived.Deep.DeepCutAuto
import Derived.Deep.CutBlock
import Derived.Test.YtdiflpbioohddaaDoortE19toOn
import Derived.Test.YtdiflpbioohddaaDoortT3toE7
import Derived.Test.YtdiflpbioohddaaDoortE13toE16
set_option linter.unusedVariables false
set_option linter.unusedSimpArgs false
section
namespace Go.Proofs.YtdiflpbioohddaaDoor
open Go.RowKit
theorem resC {fn : Func} {t : Tmp} {T : TypeId} (h : fn.results = #[.cell t T]) (tmps : Array Value) (P : Program) (w : World) {g : Nat} {v : Value} (hp : tmps.getD t undef = .pointer (some ⟨g, 0, none⟩)) (hv : (loadVar T ⟨g, 0, none⟩).run P w = .ok v w) : (results fn tmps).run P w = .ok v w := by
 have hp' : tmps[t]?.getD undef = .pointer (some ⟨g, 0, none⟩) := by rw [← Array.getD_eq_getD_getElem?]; exact hp
 simp [results, h, hp', hv, asAddr]
theorem resCT {fn : Func} {t x : Tmp} {T : TypeId} (h : fn.results = #[.cell t T, .tmp x]) (tmps : Array Value) (P : Program) (w : World) {g : Nat} {v : Value} (hp : tmps.getD t undef = .pointer (some ⟨g, 0, none⟩)) (hv : (loadVar T ⟨g, 0, none⟩).run P w = .ok v w) : (results fn tmps).run P w = .ok (.tuple #[v, tmps.getD x undef]) w := by
 have hp' : tmps[t]?.getD undef = .pointer (some ⟨g, 0, none⟩) := by rw [← Array.getD_eq_getD_getElem?]; exact hp
 simp [results, h, hp', hv, asAddr]
theorem resTCTT {fn : Func} {t x y z : Tmp} {T : TypeId} (h : fn.results = #[.tmp x, .cell t T, .tmp y, .tmp z]) (tmps : Array Value) (P : Program) (w : World) {g : Nat} {v : Value} (hp : tmps.getD t undef = .pointer (some ⟨g, 0, none⟩)) (hv : (loadVar T ⟨g, 0, none⟩).run P w = .ok v w) : (results fn tmps).run P w = .ok (.tuple #[tmps.getD x undef, v, tmps.getD y undef, tmps.getD z undef]) w := by
 have hp' : tmps[t]?.getD undef = .pointer (some ⟨g, 0, none⟩) := by rw [← Array.getD_eq_getD_getElem?]; exact hp
 simp [results, h, hp', hv, asAddr]
theorem res_box {w : World} {g : Nat} {cs : List Value} (ty : TypeId) (hb : Box w g cs) (d : TypeDesc) (hu : Tryd.prog.underlying ty = some d) (hd : d.isRow = true) (hi : (Tryd.prog.info? ty).map (·.size) = some cs.length) : (loadVar ty ⟨g, 0, none⟩).run Tryd.prog w = .ok (.agg cs.toArray) w :=
 run_loadVar_mid w g 0 _ cs d (hb.range (fun j v h => by rw [Nat.zero_add]; exact h)) hu hd hi
end Go.Proofs.YtdiflpbioohddaaDoor
end
section
namespace Go.Proofs.YtdiflpbioohddaaDoor
open Go.RowKit
def prgL (d0 d1 d2 d3 c0 c1 c2 c3 : Int) (V X : Value) : List Value := [.int .i64 d0, .int .i64 d1, .int .i64 d2, .int .i64 d3, .int .i64 c0, .int .i64 c1, .int .i64 c2, .int .i64 c3, V, X]
theorem own_sets {base E sz n : Nat} {w w' : World} {v : Value} {xs : List Value} {g : Nat} (h : w.ownsRow base E sz v n xs) (hg : w.grownBy w' (some g)) (hlt : g < base) : w'.ownsRow base E sz v n xs :=
 h.kept hg (.inr (fun e => by have := (h.lt _ e).1; omega))
def zeros10 : List Value := prgL 0 0 0 0 0 0 0 0 (.slice none 0 0) (.slice none 0 0)
theorem size_prg : (Tryd.prog.info? 41).map (·.size) = some 10 := by kernel_rfl
theorem row_prg : ∃ d, Tryd.prog.underlying 41 = some d ∧ d.isRow = true := ⟨_, Tryd.underlying41, rfl⟩
end Go.Proofs.YtdiflpbioohddaaDoor
end
section
set_option maxRecDepth 100000
namespace Go.Proofs.YtdiflpbioohddaaDoor
open Go.Joins Go.ChangeShapes Go.WideShapes Go.RowKit Go.Deep
theorem array5 {α : Type} {cs : Array α} (h : cs.size = 5) : ∃ c0 c1 c2 c3 c4, cs = #[c0, c1, c2, c3, c4] := by
 obtain ⟨l⟩ := cs
 match l, h with
 | [c0, c1, c2, c3, c4], _ => exact ⟨c0, c1, c2, c3, c4, rfl⟩
end Go.Proofs.YtdiflpbioohddaaDoor
end
section
set_option maxRecDepth 100000
namespace Go.Proofs.YtdiflpbioohddaaDoor
open Go.Joins Go.ChangeShapes Go.WideShapes Go.RowKit Go.Deep
instance : Inhabited Ins := ⟨Ins.zero⟩
end Go.Proofs.YtdiflpbioohddaaDoor
end
section
namespace Go.Proofs.YtdiflpbioohddaaDoor
open Go.RowKit
theorem OwnIR.some {base : Nat} {w : World} {v : Value} {l : List Ins} (h : OwnIR base w v l) (hl : 1 ≤ l.length) : ∃ g c, v = .slice (some ⟨g, 0, none⟩) l.length c := by
 obtain ⟨A, c, rfl, -⟩ := own_form h.1
 obtain ⟨i, hi⟩ : ∃ i, l[0]? = Option.some i := ⟨_, List.getElem?_eq_getElem (by omega)⟩
 obtain ⟨g, e0, -, -⟩ := own_cells h.1 (k := 0 * 4 + 0) (v := .int .i64 i.op) (by rw [flatI_get hi (by omega)]; rfl)
 subst e0
 exact ⟨g, c, rfl⟩
end Go.Proofs.YtdiflpbioohddaaDoor
end
section
namespace Go.Proofs.YtdiflpbioohddaaDoor
open Go.RowKit
theorem Tr.len {x y : List Ins} (h : Tr x y) : y.length = x.length := h.perm.length_eq.symm
theorem Tr.fine {x y : List Ins} (h : Tr x y) (hf : fineF x = true) : fineF y = true := by
 have := fineF_len hf
 have hl := h.len
 exact gr_fine hf (by omega) (by omega) fun i hi => h.perm.mem_iff.2 hi
end Go.Proofs.YtdiflpbioohddaaDoor
end
section
namespace Go.Proofs.YtdiflpbioohddaaDoor
structure NetV (c0 c1 c2 c3 st out : Int) (ns : List (List (Int × Int))) (nx : List Int) : Prop where
 okc : okW c0 c1 c2 c3 = true
 len : st = nx.length
 n : nx.length ≤ 64
 nn : ns.length ≤ 64
 terms : ∀ (k : Nat) ts, ns[k]? = some ts → ∀ t ∈ ts, 0 ≤ t.1 ∧ t.1 ≤ st + k ∧ (fitsW c0 c1 c2 c3 t.2 = true ∨ t.2 = 2 ^ c1.toNat)
 next : ∀ v ∈ nx, 0 ≤ v ∧ v ≤ st + ns.length
 fin : 0 ≤ out ∧ out ≤ st + ns.length
def gdI (c0 c1 c2 c3 : Int) (i : Ins) : Prop := i.formed = true ∧ i.op ≠ 0 ∧ i.op ≠ 4 ∧ i.op ≠ 8 ∧ (i.op = 2 ∨ i.op = 3 → fitsW c0 c1 c2 c3 i.imm = true ∨ i.imm = 2 ^ c1.toNat)
theorem op_ne {o k a b m : Int} (h : o ≠ k) : (⟨o, a, b, m⟩ : Ins).op ≠ k := h
theorem gd_load {c0 c1 c2 c3 r m : Int} (h1 : 0 ≤ r ∧ r < 8) (h2 : 0 ≤ m ∧ m < 128) : gdI c0 c1 c2 c3 ⟨6, r, m, 0⟩ := by
 refine ⟨?_, op_ne (by decide), op_ne (by decide), op_ne (by decide), fun h => by rcases h with h | h <;> cases h⟩
 simp [Ins.formed, kA, kB, kC, fitsK]; omega
theorem gd_store {c0 c1 c2 c3 r m : Int} (h1 : 0 ≤ r ∧ r < 8) (h2 : 0 ≤ m ∧ m < 128) : gdI c0 c1 c2 c3 ⟨7, r, m, 0⟩ := by
 refine ⟨?_, op_ne (by decide), op_ne (by decide), op_ne (by decide), fun h => by rcases h with h | h <;> cases h⟩
 simp [Ins.formed, kA, kB, kC, fitsK]; omega
theorem gd_round {c0 c1 c2 c3 r : Int} (h1 : 0 ≤ r ∧ r < 8) : gdI c0 c1 c2 c3 ⟨5, r, 0, 0⟩ := by
 refine ⟨?_, op_ne (by decide), op_ne (by decide), op_ne (by decide), fun h => by rcases h with h | h <;> cases h⟩
 simp [Ins.formed, kA, kB, kC, fitsK]; omega
theorem gd_out {c0 c1 c2 c3 r : Int} (h1 : 0 ≤ r ∧ r < 8) : gdI c0 c1 c2 c3 ⟨10, r, 0, 0⟩ := by
 refine ⟨?_, op_ne (by decide), op_ne (by decide), op_ne (by decide), fun h => by rcases h with h | h <;> cases h⟩
 simp [Ins.formed, kA, kB, kC, fitsK]; omega
theorem gd_in {c0 c1 c2 c3 : Int} : gdI c0 c1 c2 c3 ⟨9, 0, 0, 0⟩ := ⟨by decide, by decide, by decide, by decide, fun h => by rcases h with h | h <;> cases h⟩
theorem gd_clear {c0 c1 c2 c3 : Int} : gdI c0 c1 c2 c3 ⟨1, 0, 0, 0⟩ := ⟨by decide, by decide, by decide, by decide, fun h => by rcases h with h | h <;> cases h⟩
theorem coef_range {c0 c1 c2 c3 v : Int} (hc : okW c0 c1 c2 c3 = true) (h : fitsW c0 c1 c2 c3 v = true ∨ v = 2 ^ c1.toNat) : -8388608 ≤ v ∧ v ≤ 8388608 := by
 have ho := okW_iff.1 hc
 have h23 : (2 : Int) ^ 23 = 8388608 := by decide
 have hp : ∀ m : Nat, m ≤ 23 → (2 : Int) ^ m ≤ 8388608 := fun m hm => by
  rw [← h23]
  exact_mod_cast Nat.pow_le_pow_right (by decide : 0 < 2) hm
 rcases h with h | h
 ·unfold fitsW at h
  rw [hc, Bool.true_and, inB_iff] at h
  unfold lowW highW at h
  rw [if_pos hc] at h
  rw [if_pos hc] at h
  have := hp (c0 - 1).toNat (by omega)
  omega
 ·have h1 := hp c1.toNat (by omega)
  have h2 : (0 : Int) < 2 ^ c1.toNat := by exact_mod_cast Nat.pow_pos (by decide : 0 < 2)
  omega
theorem gd_term {c0 c1 c2 c3 last : Int} {t : Int × Int} (hc : okW c0 c1 c2 c3 = true) (h : 0 ≤ t.1 ∧ t.1 ≤ last ∧ (fitsW c0 c1 c2 c3 t.2 = true ∨ t.2 = 2 ^ c1.toNat)) (hl : last ≤ 128) : gdI c0 c1 c2 c3 (termI t) := by
 have hr := coef_range hc h.2.2
 unfold termI
 split
 ·refine ⟨?_, op_ne (by decide), op_ne (by decide), op_ne (by decide), fun _ => h.2.2⟩
  simp [Ins.formed, kA, kB, kC, fitsK]; omega
 ·refine ⟨?_, op_ne (by decide), op_ne (by decide), op_ne (by decide), fun _ => h.2.2⟩
  simp [Ins.formed, kA, kB, kC, fitsK]; omega
theorem genC_last (st : Int) (ns : List (List (Int × Int))) : ∀ k, 0 ≤ (genC st ns k).2 ∧ (genC st ns k).2 ≤ 6
 | 0 => ⟨(by decide : (0 : Int) ≤ 0), (by decide : (0 : Int) ≤ 6)⟩
 | k + 1 => by
  have := nextR_in (genC_last st ns k).1
  show 0 ≤ nextR _ ∧ nextR _ ≤ 6
  omega
theorem genC_good {c0 c1 c2 c3 st out : Int} {ns : List (List (Int × Int))} {nx : List Int} (h : NetV c0 c1 c2 c3 st out ns nx) : ∀ k, k ≤ ns.length → ∀ i ∈ (genC st ns k).1, gdI c0 c1 c2 c3 i
 | 0, _, i, hi => by
  rw [List.mem_singleton.1 hi]; exact gd_in
 | k + 1, hk, i, hi => by
  have h1 := h.len; have h2 := h.n; have h3 := h.nn
  have hr := nextR_in (genC_last st ns k).1
  rcases List.mem_append.1 hi with hi | hi
  ·exact genC_good h k (by omega) i hi
  ·obtain ⟨ts, hts⟩ : ∃ ts, ns[k]? = some ts := ⟨_, List.getElem?_eq_getElem (by omega)⟩
   have e : ns.getD k [] = ts := by rw [List.getD_eq_getElem?_getD, hts]; rfl
   rw [e] at hi
   unfold nodeI at hi
   rcases List.mem_cons.1 hi with rfl | hi
   ·exact gd_clear
   ·rcases List.mem_append.1 hi with hi | hi
    ·obtain ⟨t, ht, rfl⟩ := List.mem_map.1 hi
     exact gd_term h.okc (h.terms k ts hts t ht) (by omega)
    ·rcases List.mem_cons.1 hi with rfl | hi
     ·exact gd_round (by omega)
     ·rw [List.mem_singleton.1 hi]
      exact gd_store (by omega) (by omega)
theorem fetch_good {c0 c1 c2 c3 v r : Int} (hv : 0 ≤ v ∧ v ≤ 128) (hr : 0 ≤ r) : (∀ i ∈ fetchI v r, gdI c0 c1 c2 c3 i) ∧ (0 ≤ fetchR v r ∧ fetchR v r < 8) ∧ (0 ≤ r ∧ r ≤ 6 → 0 ≤ fetchL v r ∧ fetchL v r ≤ 6) := by
 have := nextR_in hr
 unfold fetchI fetchR fetchL
 split
 ·exact ⟨fun i hi => by simp at hi, by omega, fun h => h⟩
 ·exact ⟨fun i hi => by rw [List.mem_singleton.1 hi]; exact gd_load (by omega) (by omega), by omega, fun _ => by omega⟩
theorem body_good {c0 c1 c2 c3 st out : Int} {ns : List (List (Int × Int))} {nx : List Int} (h : NetV c0 c1 c2 c3 st out ns nx) : (∀ i ∈ (bodyC st out ns).1, gdI c0 c1 c2 c3 i) ∧ 0 ≤ (bodyC st out ns).2 ∧ (bodyC st out ns).2 ≤ 6 := by
 have h1 := h.len; have h2 := h.n; have h3 := h.nn
 have hl := genC_last st ns ns.length
 obtain ⟨f1, f2, f3⟩ := fetch_good (c0 := c0) (c1 := c1) (c2 := c2) (c3 := c3) (v := out) (r := (genC st ns ns.length).2) (by have := h.fin; omega) hl.1
 refine ⟨fun i hi => ?_, f3 hl⟩
 unfold bodyC at hi
 rcases List.mem_append.1 hi with hi | hi
 ·rcases List.mem_append.1 hi with hi | hi
  ·exact genC_good h _ (Nat.le_refl _) i hi
  ·exact f1 i hi
 ·rw [List.mem_singleton.1 hi]
  exact gd_out f2
theorem src_in {st : Int} {n : Nat} {nx : List Int} (h : ∀ v ∈ nx, 0 ≤ v ∧ v ≤ st + n) {k : Nat} (hk : k < nx.length) : 0 ≤ nx.getD k 0 ∧ nx.getD k 0 ≤ st + n := by
 rw [List.getD_eq_getElem?_getD, List.getElem?_eq_getElem hk]
 exact h _ (List.getElem_mem hk)
theorem adv_good {c0 c1 c2 c3 st out : Int} {ns : List (List (Int × Int))} {nx : List Int} (h : NetV c0 c1 c2 c3 st out ns nx) {code : List Ins} {last : Int} (hc : ∀ i ∈ code, gdI c0 c1 c2 c3 i) (hl : 0 ≤ last ∧ last ≤ 6) : ∀ i ∈ (advF code last nx).code, gdI c0 c1 c2 c3 i := by
 have h1 := h.len; have h2 := h.n; have h3 := h.nn
 have key := adv_ind (src := nx) (P := fun s => (∀ i ∈ s.code, gdI c0 c1 c2 c3 i) ∧ 0 ≤ s.last ∧ s.last ≤ 6) ?_ ?_ (2 * nx.length + 1) (adv0 code last nx) adv0_w ⟨hc, hl⟩
 ·exact key.1
 ·rintro s k - hk - ⟨p1, p2⟩
  have hs := src_in h.next hk
  unfold moveS
  split
  ·refine ⟨fun i hi => ?_, p2⟩
   rcases List.mem_append.1 hi with hi | hi
   ·exact p1 i hi
   ·rw [List.mem_singleton.1 hi]; exact gd_store (by omega) (by omega)
  ·obtain ⟨f1, f2, f3⟩ := fetch_good (c0 := c0) (c1 := c1) (c2 := c2) (c3 := c3) (v := nx.getD k 0) (r := s.last) (by omega) p2.1
   refine ⟨fun i hi => ?_, f3 p2⟩
   rcases List.mem_append.1 hi with hi | hi
   ·rcases List.mem_append.1 hi with hi | hi
    ·exact p1 i hi
    ·exact f1 i hi
   ·rw [List.mem_singleton.1 hi]; exact gd_store f2 (by omega)
 ·rintro s k - hk - - ⟨p1, p2⟩
  refine ⟨fun i hi => ?_, p2⟩
  rcases List.mem_append.1 hi with hi | hi
  ·exact p1 i hi
  ·rw [List.mem_singleton.1 hi]; exact gd_load (by omega) (by omega)
def advL (src : List Int) (s : AdvS) : Nat := s.code.length + 3 * s.left + if (List.range src.length).any (canB src s) then 0 else 1
theorem fetch_len (v r : Int) : (fetchI v r).length ≤ 1 := by unfold fetchI; split <;> simp
theorem adv_len (src : List Int) (code : List Ins) (last : Int) : (advF code last src).code.length ≤ code.length + 3 * src.length + 1 := by
 have key := adv_ind (src := src) (P := fun s => advL src s ≤ code.length + 3 * src.length + 1) ?_ ?_ (2 * src.length + 1) (adv0 code last src) adv0_w ?_
 ·have : (advF code last src).code.length ≤ advL src (advF code last src) := by unfold advL; omega
  exact Nat.le_trans this key
 ·intro s k _ hk hc hp
  have e : (List.range src.length).any (canB src s) = true := List.any_eq_true.2 ⟨k, List.mem_range.2 hk, hc⟩
  have hl := move_left (src := src) (canB_pend hc)
  have hlen : (moveS src s k).code.length ≤ s.code.length + 2 := by
   unfold moveS
   split
   ·simp
   ·have := fetch_len (src.getD k 0) s.last
    simp only [List.length_append, List.length_cons, List.length_nil]; omega
  unfold advL at hp ⊢
  rw [e, if_pos rfl] at hp
  split <;> omega
 ·intro s k _ hk hpk hno hp
  have e : (List.range src.length).any (canB src s) = false := by
   rw [List.any_eq_false]
   intro j hj
   rw [hno j (List.mem_range.1 hj)]; decide
  have e2 : (List.range src.length).any (canB src (brkS src s k)) = true := List.any_eq_true.2 ⟨k, List.mem_range.2 hk, brk_can hpk⟩
  unfold advL at hp ⊢
  rw [e, if_neg (by decide)] at hp
  rw [e2, if_pos rfl]
  have h1 : (brkS src s k).code.length = s.code.length + 1 := by unfold brkS; simp
  have h2 : (brkS src s k).left = s.left := rfl
  omega
 ·have h : (adv0 code last src).left ≤ src.length := by
   have := count_le (l := (adv0 code last src).pend)
   rw [adv0_w.pl] at this
   exact this
  unfold advL
  show code.length + 3 * (adv0 code last src).left + _ ≤ _
  split <;> omega
def cntT (ns : List (List (Int × Int))) : Nat := (ns.map List.length).sum
theorem genC_len (st : Int) (ns : List (List (Int × Int))) : ∀ k, k ≤ ns.length → (genC st ns k).1.length = 1 + cntT (ns.take k) + 3 * k
 | 0, _ => rfl
 | k + 1, hk => by
  have ih := genC_len st ns k (by omega)
  obtain ⟨ts, hts⟩ : ∃ ts, ns[k]? = some ts := ⟨_, List.getElem?_eq_getElem (by omega)⟩
  have e : ns.getD k [] = ts := by rw [List.getD_eq_getElem?_getD, hts]; rfl
  show ((genC st ns k).1 ++ nodeI _ _ (ns.getD k [])).length = _
  rw [List.length_append, ih, e]
  have e2 : cntT (ns.take (k + 1)) = cntT (ns.take k) + ts.length := by
   unfold cntT
   rw [List.take_add_one, hts, List.map_append, List.sum_append]; rfl
  rw [e2]
  unfold nodeI
  simp; omega
theorem comp_len (st out : Int) (ns : List (List (Int × Int))) (nx : List Int) : (compC st out ns nx).length ≤ 5 + cntT ns + 3 * ns.length + 3 * nx.length := by
 have h1 := genC_len st ns ns.length (Nat.le_refl _)
 rw [List.take_of_length_le (Nat.le_refl _)] at h1
 have h2 : (bodyC st out ns).1.length ≤ 3 + cntT ns + 3 * ns.length := by
  have := fetch_len out (genC st ns ns.length).2
  unfold bodyC
  simp only [List.length_append, List.length_cons, List.length_nil]; omega
 have h3 := adv_len nx (bodyC st out ns).1 (bodyC st out ns).2
 unfold compC
 rw [List.length_append, List.length_cons, List.length_nil]
 omega
theorem gd_suit {d : PrgD} {i : Ins} (hr : d.rg = []) (h : gdI d.c0 d.c1 d.c2 d.c3 i) : suitB d i = true := by
 obtain ⟨h1, h2, h3, h4, h5⟩ := h
 have hu : ∀ m, usdB d.rg m = false := fun m => by rw [hr]; rfl
 have e1 : (if i.op = 4 then decide (i.a < d.rg.length) && decide (i.b < (d.rg.getD i.a.toNat (0, 0)).2) else if i.op = 8 then decide (i.a < d.rg.length)
  else if i.op = 3 then !usdB d.rg i.a else if i.op = 6 ∨ i.op = 7 then !usdB d.rg i.b else true) = true := by
   rw [if_neg h3, if_neg h4, hu, hu]
   split
   ·rfl
   ·split <;> rfl
 have e2 : (if i.op = 2 ∨ i.op = 3 ∨ i.op = 4 then fitsW d.c0 d.c1 d.c2 d.c3 i.imm || decide (i.imm = 2 ^ d.c1.toNat) else true) = true := by
  split
  ·rename_i ho
   rcases h5 (by rcases ho with h | h | h; exact .inl h; exact .inr h; exact absurd h h3) with h | h
   ·rw [h]; rfl
   ·rw [decide_eq_true h, Bool.or_true]
  ·rfl
 unfold suitB fitI
 rw [h1, e1, e2]; rfl
theorem comp_valid {d : PrgD} {st out : Int} {ns : List (List (Int × Int))} {nx : List Int} (h : NetV d.c0 d.c1 d.c2 d.c3 st out ns nx) (hw : okWD d = true) (hr : d.rg = []) (hcode : d.code = compC st out ns nx) (hl : (compC st out ns nx).length ≤ 512) : validB d = true := by
 obtain ⟨b1, b2, b3⟩ := body_good h
 have ha := adv_good h b1 ⟨b2, b3⟩
 obtain ⟨B, hB⟩ : ∃ B, (advF (bodyC st out ns).1 (bodyC st out ns).2 nx).code = B := ⟨_, rfl⟩
 have hc : d.code = B ++ [⟨0, 0, 0, 0⟩] := by rw [hcode]; unfold compC; rw [hB]
 rw [hB] at ha
 have hlen : d.code.length = B.length + 1 := by rw [hc]; simp
 have hl' : d.code.length ≤ 512 := by rw [hcode]; exact hl
 have hring : ringsB d.rg = true := by rw [hr]; rfl
 have hin : inB d.code.length 1 512 = true := inB_iff.2 (by omega)
 have hall : (List.range d.code.length).all (goodAt d) = true := by
  refine List.all_eq_true.2 fun k hk => ?_
  have hk := List.mem_range.1 hk
  unfold goodAt
  by_cases hkB : k < B.length
  ·have e : d.code.getD k Ins.zero = B[k] := by
    rw [hc, List.getD_eq_getElem?_getD, List.getElem?_append_left hkB, List.getElem?_eq_getElem hkB]; rfl
   have hg := ha B[k] (List.getElem_mem hkB)
   rw [e, gd_suit hr hg, decide_eq_false hg.2.1, decide_eq_false (by omega : ¬ k + 1 = d.code.length)]; rfl
  ·obtain rfl : k = B.length := by omega
   have e : d.code.getD B.length Ins.zero = ⟨0, 0, 0, 0⟩ := by
    rw [hc, List.getD_eq_getElem?_getD, List.getElem?_append_right (Nat.le_refl _), Nat.sub_self]; rfl
   rw [e, decide_eq_true (by rw [hlen] : B.length + 1 = d.code.length)]
   have : suitB d ⟨0, 0, 0, 0⟩ = true := by unfold suitB fitI; rfl
   rw [this]; rfl
 unfold validB
 rw [hw, hring, hin, hall]; rfl
end Go.Proofs.YtdiflpbioohddaaDoor
end
section
namespace Go.Proofs.YtdiflpbioohddaaDoor
open Go.RowKit
structure Mac where
 (regs mem heads : List Int)
 (cyc stl : Int)
structure Smp where
 (regs mem heads : List Int)
 (sum out : Int)
 (ov : Bool)
def rgA (d : PrgD) (a : Int) : Int × Int := d.rg.getD a.toNat (0, 0)
def plc (d : PrgD) (hs : List Int) (a b : Int) : Int := (rgA d a).1 + (hs.getD a.toNat 0 + b) % (rgA d a).2
def redD (d : PrgD) (v : Int) : Int := reduceW d.d0 d.d1 d.d2 d.d3 v
def fitD (d : PrgD) (v : Int) : Bool := fitsW d.d0 d.d1 d.d2 d.d3 v
def shD (d : PrgD) (v : Int) : Int := shiftF v d.c1 d.d2
def stepM (d : PrgD) (x : Int) (s : Smp) (i : Ins) : Smp :=
 match i.op.toNat with
 | 1 => { s with sum := 0 }
 | 2 => { s with sum := wrap64 (s.sum + s.regs.getD i.a.toNat 0 * i.imm) }
 | 3 => { s with sum := wrap64 (s.sum + s.mem.getD i.a.toNat 0 * i.imm) }
 | 4 => { s with sum := wrap64 (s.sum + s.mem.getD (plc d s.heads i.a i.b).toNat 0 * i.imm) }
 | 5 => { s with regs := s.regs.set i.a.toNat (redD d (shD d s.sum)), ov := s.ov || !fitD d (shD d s.sum) }
 | 6 => { s with regs := s.regs.set i.a.toNat (s.mem.getD i.b.toNat 0) }
 | 7 => { s with mem := s.mem.set i.b.toNat (s.regs.getD i.a.toNat 0) }
 | 8 => { s with heads := s.heads.set i.a.toNat ((s.heads.getD i.a.toNat 0 + (rgA d i.a).2 - 1) % (rgA d i.a).2),
                 mem := s.mem.set (plc d (s.heads.set i.a.toNat ((s.heads.getD i.a.toNat 0 + (rgA d i.a).2 - 1) % (rgA d i.a).2)) i.a 0).toNat (s.regs.getD i.b.toNat 0) }
 | 9 => { s with regs := s.regs.set i.a.toNat x }
 | 10 => { s with out := s.regs.getD i.a.toNat 0 }
 | 11 => { s with regs := s.regs.set i.a.toNat (s.regs.getD i.b.toNat 0) }
 | _ => s
def smp0 (m : Mac) : Smp := ⟨m.regs, m.mem, m.heads, 0, 0, false⟩
def sampF (d : PrgD) (x : Int) (m : Mac) (l : List Ins) : Smp := l.foldl (stepM d x) (smp0 m)
theorem sampF_snoc (d : PrgD) (x : Int) (m : Mac) (l : List Ins) (i : Ins) : sampF d x m (l ++ [i]) = stepM d x (sampF d x m l) i := by unfold sampF; rw [List.foldl_append]; rfl
def macN (d : PrgD) (x : Int) (m : Mac) : Mac := ⟨(sampF d x m d.code).regs, (sampF d x m d.code).mem, (sampF d x m d.code).heads, m.cyc + cycF d.code, m.stl + stlF d.code⟩
def runM (d : PrgD) (m : Mac) (xs : List Int) : Mac := xs.foldl (fun m x => macN d x m) m
def runO (d : PrgD) : Mac → List Int → List Int
 | _, [] => []
 | m, x :: xs => (sampF d x m d.code).out :: runO d (macN d x m) xs
def ovN (d : PrgD) (x : Int) (m : Mac) : Int := if (sampF d x m d.code).ov then 1 else 0
def runV (d : PrgD) : Mac → List Int → Int
 | _, [] => 0
 | m, x :: xs => ovN d x m + runV d (macN d x m) xs
theorem runM_append (d : PrgD) (m : Mac) (xs ys : List Int) : runM d m (xs ++ ys) = runM d (runM d m xs) ys := by unfold runM; rw [List.foldl_append]
theorem runO_append (d : PrgD) : ∀ (m : Mac) (xs ys : List Int), runO d m (xs ++ ys) = runO d m xs ++ runO d (runM d m xs) ys
 | _, [], _ => rfl
 | m, x :: xs, ys => by
  show _ :: runO d _ (xs ++ ys) = _ :: (runO d _ xs ++ _)
  rw [runO_append d _ xs ys]; rfl
theorem runV_append (d : PrgD) : ∀ (m : Mac) (xs ys : List Int), runV d m (xs ++ ys) = runV d m xs + runV d (runM d m xs) ys
 | _, [], ys => by show runV d _ ys = 0 + _; rw [Int.zero_add]; rfl
 | m, x :: xs, ys => by
  show _ + runV d _ (xs ++ ys) = _ + runV d _ xs + _
  rw [runV_append d _ xs ys, Int.add_assoc]; rfl
theorem runM_snoc (d : PrgD) (m : Mac) (xs : List Int) (x : Int) : runM d m (xs ++ [x]) = macN d x (runM d m xs) := by rw [runM_append]; rfl
theorem runO_snoc (d : PrgD) (m : Mac) (xs : List Int) (x : Int) : runO d m (xs ++ [x]) = runO d m xs ++ [(sampF d x (runM d m xs) d.code).out] := by rw [runO_append]; rfl
theorem runV_snoc (d : PrgD) (m : Mac) (xs : List Int) (x : Int) : runV d m (xs ++ [x]) = runV d m xs + ovN d x (runM d m xs) := by
 rw [runV_append]
 show _ + (ovN d x _ + 0) = _
 rw [Int.add_zero]
theorem runO_len (d : PrgD) : ∀ (m : Mac) (xs : List Int), (runO d m xs).length = xs.length
 | _, [] => rfl
 | m, x :: xs => by show (runO d _ xs).length + 1 = xs.length + 1; rw [runO_len d _ xs]
theorem runV_in (d : PrgD) : ∀ (m : Mac) (xs : List Int), 0 ≤ runV d m xs ∧ runV d m xs ≤ xs.length
 | _, [] => by show (0 : Int) ≤ 0 ∧ (0 : Int) ≤ ((0 : Nat) : Int); omega
 | m, x :: xs => by
  have := runV_in d (macN d x m) xs
  show 0 ≤ ovN d x m + runV d _ xs ∧ ovN d x m + runV d _ xs ≤ ((xs.length + 1 : Nat) : Int)
  unfold ovN
  split <;> omega
theorem runM_time (d : PrgD) : ∀ (xs : List Int) (m : Mac), (runM d m xs).cyc = m.cyc + xs.length * cycF d.code ∧ (runM d m xs).stl = m.stl + xs.length * stlF d.code
 | [], m => by
  show m.cyc = m.cyc + ((0 : Nat) : Int) * _ ∧ m.stl = m.stl + ((0 : Nat) : Int) * _
  rw [Int.natCast_zero, Int.zero_mul, Int.zero_mul]; omega
 | x :: xs, m => by
  obtain ⟨h1, h2⟩ := runM_time d xs (macN d x m)
  refine ⟨?_, ?_⟩
  ·show (runM d (macN d x m) xs).cyc = m.cyc + ((xs.length + 1 : Nat) : Int) * _
   rw [h1]
   show m.cyc + cycF d.code + _ = _
   rw [Int.natCast_succ, Int.add_mul]; omega
  ·show (runM d (macN d x m) xs).stl = m.stl + ((xs.length + 1 : Nat) : Int) * _
   rw [h2]
   show m.stl + stlF d.code + _ = _
   rw [Int.natCast_succ, Int.add_mul]; omega
def headsB (rg : List (Int × Int)) (hs : List Int) : Bool := (List.range hs.length).all fun k => decide (0 ≤ hs.getD k 0 ∧ hs.getD k 0 < (rg.getD k (0, 0)).2)
def wordD (d : PrgD) (l : List Int) : Bool := wordsB d.d0 d.d1 d.d2 d.d3 l
structure StOk (d : PrgD) (rs ms hs : List Int) : Prop where
 rl : rs.length = 8
 ml : ms.length = 128
 hl : hs.length = d.rg.length
 rw : wordD d rs = true
 mw : wordD d ms = true
 hw : headsB d.rg hs = true
theorem wordD_at {d : PrgD} {l : List Int} (h : wordD d l = true) {k : Nat} (hk : k < l.length) : fitD d (l.getD k 0) = true := by
 unfold wordD wordsB at h
 rw [List.getD_eq_getElem?_getD, List.getElem?_eq_getElem hk]
 exact List.all_eq_true.1 h _ (List.getElem_mem hk)
theorem wordD_set {d : PrgD} {l : List Int} (h : wordD d l = true) {v : Int} (hv : fitD d v = true) (k : Nat) : wordD d (l.set k v) = true := by
 unfold wordD wordsB at *
 refine List.all_eq_true.2 fun x hx => ?_
 rcases List.mem_or_eq_of_mem_set hx with h1 | rfl
 ·exact List.all_eq_true.1 h x h1
 ·exact hv
theorem fitD_bound {d : PrgD} {v : Int} (h : fitD d v = true) : -8388608 ≤ v ∧ v ≤ 8388607 := by
 unfold fitD fitsW at h
 rw [Bool.and_eq_true, inB_iff] at h
 have := low_high d.d0 d.d1 d.d2 d.d3
 omega
theorem wrapF_in {b : Int} (h1 : 1 ≤ b) (h2 : b ≤ 62) (s : Int) : -2 ^ (b - 1).toNat ≤ wrapF b s ∧ wrapF b s < 2 ^ (b - 1).toNat := by
 obtain ⟨n, hn⟩ := Int.eq_ofNat_of_zero_le (show 0 ≤ b - 1 by omega)
 obtain rfl : b = (n : Int) + 1 := by omega
 unfold wrapF
 rw [if_pos (inB_iff.2 ⟨h1, h2⟩), show ((n : Int) + 1).toNat = n + 1 by omega, show ((n : Int) + 1 - 1).toNat = n by omega]
 have hp : (0 : Nat) < 2 ^ (n + 1) := Nat.pow_pos (by decide)
 have e : (2 : Nat) ^ (n + 1) = 2 * 2 ^ n := by rw [Nat.pow_succ]; omega
 have a1 := Int.le_bmod (x := s) hp
 have a2 := Int.bmod_lt (x := s) hp
 rw [e] at a1 a2 ⊢
 have hc : ((2 ^ n : Nat) : Int) = 2 ^ n := by simp
 push_cast at a1 a2 ⊢
 omega
theorem fitD_red {d : PrgD} (h : okW d.d0 d.d1 d.d2 d.d3 = true) (v : Int) : fitD d (redD d v) = true := by
 have ho := okW_iff.1 h
 have hl : lowW d.d0 d.d1 d.d2 d.d3 = -2 ^ (d.d0 - 1).toNat := by unfold lowW; rw [if_pos h]
 have hh : highW d.d0 d.d1 d.d2 d.d3 = 2 ^ (d.d0 - 1).toNat - 1 := by unfold highW; rw [if_pos h]
 unfold fitD fitsW redD reduceW
 rw [h, Bool.true_and, if_pos rfl, inB_iff]
 split
 ·have := wrapF_in (b := d.d0) (by omega) (by omega) v
  omega
 ·have := low_high d.d0 d.d1 d.d2 d.d3
  unfold satW
  omega
theorem headsB_at {rg : List (Int × Int)} {hs : List Int} (h : headsB rg hs = true) {k : Nat} (hk : k < hs.length) : 0 ≤ hs.getD k 0 ∧ hs.getD k 0 < (rg.getD k (0, 0)).2 := by
 unfold headsB at h
 have := List.all_eq_true.1 h k (List.mem_range.2 hk)
 simpa using this
theorem headsB_set {rg : List (Int × Int)} {hs : List Int} (h : headsB rg hs = true) {k : Nat} {v : Int} (hv : 0 ≤ v ∧ v < (rg.getD k (0, 0)).2) : headsB rg (hs.set k v) = true := by
 unfold headsB
 rw [List.length_set]
 refine List.all_eq_true.2 fun j hj => ?_
 have hj := List.mem_range.1 hj
 rw [decide_eq_true_eq]
 have := headsB_at h hj
 by_cases e : k = j
 ·subst e
  have e2 : (hs.set k v).getD k 0 = v := by rw [List.getD_eq_getElem?_getD, List.getElem?_set_self (by omega)]; rfl
  rw [e2]; exact hv
 ·have e2 : (hs.set k v).getD j 0 = hs.getD j 0 := by rw [List.getD_eq_getElem?_getD, List.getElem?_set_ne e, List.getD_eq_getElem?_getD]
  rw [e2]; exact this
theorem valid_ring {d : PrgD} (h : validB d = true) {k : Nat} (hk : k < d.rg.length) : ringIn (d.rg.getD k (0, 0)) = true := by
 obtain ⟨-, h2, -, -⟩ := valid_parts h
 unfold ringsB at h2
 rw [Bool.and_eq_true] at h2
 refine ringsK_all h2.2 (Nat.le_refl _) _ ?_
 rw [List.getD_eq_getElem?_getD, List.getElem?_eq_getElem hk, List.take_length]
 exact List.getElem_mem hk
theorem valid_suit {d : PrgD} (h : validB d = true) {k : Nat} {i : Ins} (hi : d.code[k]? = some i) : suitB d i = true := by
 obtain ⟨-, -, -, h4⟩ := valid_parts h
 have hk := (List.getElem?_eq_some_iff.1 hi).1
 have := h4 k hk
 unfold goodAt at this
 rw [Bool.and_eq_true, List.getD_eq_getElem?_getD, hi] at this
 exact this.1
theorem suit_mem {d : PrgD} (h : validB d = true) : ∀ i ∈ d.code, suitB d i = true := fun i hi => by
 obtain ⟨k, hk, rfl⟩ := List.getElem_of_mem hi
 exact valid_suit h (List.getElem?_eq_getElem hk)
theorem suit_ring {d : PrgD} {i : Ins} (h : suitB d i = true) (ho : i.op = 4 ∨ i.op = 8) : 0 ≤ i.a ∧ i.a < d.rg.length ∧ (i.op = 4 → 0 ≤ i.b ∧ i.b < (rgA d i.a).2) := by
 unfold suitB at h
 rw [Bool.and_eq_true] at h
 obtain ⟨hf, h⟩ := h
 have hp := formed_parts hf
 unfold fitI at h
 rw [Bool.and_eq_true] at h
 rcases ho with ho | ho
 ·rw [if_pos ho] at h
  have := h.1
  simp only [Bool.and_eq_true, decide_eq_true_eq] at this
  exact ⟨hp.2.1.1, this.1, fun _ => ⟨hp.2.2.1.1, this.2⟩⟩
 ·rw [if_neg (by omega), if_pos ho] at h
  have := h.1
  simp only [decide_eq_true_eq] at this
  exact ⟨hp.2.1.1, this, fun e => by omega⟩
theorem plc_in {d : PrgD} (hv : validB d = true) {hs : List Int} {a b : Int} (h0 : 0 ≤ a) (h1 : a < d.rg.length) : (rgA d a).1 ≤ plc d hs a b ∧ plc d hs a b < (rgA d a).1 + (rgA d a).2 ∧ 0 ≤ plc d hs a b ∧ plc d hs a b < 128 := by
 have hr := ringIn_iff.1 (valid_ring hv (k := a.toNat) (by omega))
 unfold plc
 unfold rgA at *
 have e1 := Int.emod_nonneg (hs.getD a.toNat 0 + b) (show (d.rg.getD a.toNat (0, 0)).2 ≠ 0 by omega)
 have e2 := Int.emod_lt_of_pos (hs.getD a.toNat 0 + b) (show 0 < (d.rg.getD a.toNat (0, 0)).2 by omega)
 omega
structure SmpOk (d : PrgD) (s : Smp) : Prop where
 st : StOk d s.regs s.mem s.heads
 sum : I64 s.sum
 out : I64 s.out
theorem wrap64_I64 (x : Int) : I64 (wrap64 x) := by
 unfold wrap64 I64
 have := Int.bmod_lt (x := x) (m := 2 ^ 64) (by decide)
 have := Int.le_bmod (x := x) (m := 2 ^ 64) (by decide)
 simp at *
 omega
theorem stepM_ok {d : PrgD} (hv : validB d = true) {x : Int} (hx : fitD d x = true) {s : Smp} (hs : SmpOk d s) {i : Ins} (hi : suitB d i = true) : SmpOk d (stepM d x s i) := by
 obtain ⟨hw1, -, -, -⟩ := valid_parts hv
 have hw : okW d.d0 d.d1 d.d2 d.d3 = true := by unfold okWD at hw1; exact (Bool.and_eq_true_iff.1 hw1).1
 obtain ⟨⟨rl, ml, hl, rw', mw, hw'⟩, h1, h2⟩ := hs
 have hf : i.formed = true := by unfold suitB at hi; exact (Bool.and_eq_true_iff.1 hi).1
 obtain ⟨hop, -, -, -⟩ := formed_parts hf
 have hB : ∀ k : Nat, fitD d (s.regs.getD k 0) = true → I64 (s.regs.getD k 0) := fun k h => by have := fitD_bound h; exact ⟨by omega, by omega⟩
 have hc : i.op = 0 ∨ i.op = 1 ∨ i.op = 2 ∨ i.op = 3 ∨ i.op = 4 ∨ i.op = 5 ∨ i.op = 6 ∨ i.op = 7 ∨ i.op = 8 ∨ i.op = 9 ∨ i.op = 10 ∨ i.op = 11 := by omega
 obtain ⟨op, a, b, imm⟩ := i
 simp only at hc
 have hk := hf
 unfold Ins.formed at hk
 simp only [Bool.and_eq_true] at hk
 rcases hc with rfl | rfl | rfl | rfl | rfl | rfl | rfl | rfl | rfl | rfl | rfl | rfl
 ·exact ⟨⟨rl, ml, hl, rw', mw, hw'⟩, h1, h2⟩
 ·exact ⟨⟨rl, ml, hl, rw', mw, hw'⟩, ⟨by show (_ : Int) ≤ 0; omega, by show (0 : Int) ≤ _; omega⟩, h2⟩
 ·exact ⟨⟨rl, ml, hl, rw', mw, hw'⟩, wrap64_I64 _, h2⟩
 ·exact ⟨⟨rl, ml, hl, rw', mw, hw'⟩, wrap64_I64 _, h2⟩
 ·exact ⟨⟨rl, ml, hl, rw', mw, hw'⟩, wrap64_I64 _, h2⟩
 ·exact ⟨⟨by show (List.set _ _ _).length = 8; rw [List.length_set]; exact rl, ml, hl, wordD_set rw' (fitD_red hw _) _, mw, hw'⟩, h1, h2⟩
 ·have hb : 0 ≤ b ∧ b < 128 := by have := hk.1.2; simpa [kB, fitsK] using this
  exact ⟨⟨by show (List.set _ _ _).length = 8; rw [List.length_set]; exact rl, ml, hl, wordD_set rw' (wordD_at mw (by show b.toNat < _; omega)) _, mw, hw'⟩, h1, h2⟩
 ·have ha : 0 ≤ a ∧ a < 8 := by have := hk.1.1.2; simpa [kA, fitsK] using this
  exact ⟨⟨rl, by show (List.set _ _ _).length = 128; rw [List.length_set]; exact ml, hl, rw', wordD_set mw (wordD_at rw' (by show a.toNat < _; omega)) _, hw'⟩, h1, h2⟩
 ·have hb : 0 ≤ b ∧ b < 8 := by have := hk.1.2; simpa [kB, fitsK] using this
  obtain ⟨a0, a1, -⟩ := suit_ring hi (.inr rfl)
  simp only at a0 a1
  have hr := ringIn_iff.1 (valid_ring hv (k := a.toNat) (by omega))
  have e1 := Int.emod_nonneg (s.heads.getD a.toNat 0 + (rgA d a).2 - 1) (show (rgA d a).2 ≠ 0 by unfold rgA; omega)
  have e2 := Int.emod_lt_of_pos (s.heads.getD a.toNat 0 + (rgA d a).2 - 1) (show 0 < (rgA d a).2 by unfold rgA; omega)
  refine ⟨⟨rl, ?_, ?_, rw', wordD_set mw (wordD_at rw' (by show b.toNat < _; omega)) _, headsB_set hw' ⟨e1, e2⟩⟩, h1, h2⟩
  ·show (List.set _ _ _).length = 128
   rw [List.length_set]; exact ml
  ·show (List.set _ _ _).length = _
   rw [List.length_set]; exact hl
 ·exact ⟨⟨by show (List.set _ _ _).length = 8; rw [List.length_set]; exact rl, ml, hl, wordD_set rw' hx _, mw, hw'⟩, h1, h2⟩
 ·have ha : 0 ≤ a ∧ a < 8 := by have := hk.1.1.2; simpa [kA, fitsK] using this
  exact ⟨⟨rl, ml, hl, rw', mw, hw'⟩, h1, hB _ (wordD_at rw' (by show a.toNat < _; omega))⟩
 ·have hb : 0 ≤ b ∧ b < 8 := by have := hk.1.2; simpa [kB, fitsK] using this
  exact ⟨⟨by show (List.set _ _ _).length = 8; rw [List.length_set]; exact rl, ml, hl, wordD_set rw' (wordD_at rw' (by show b.toNat < _; omega)) _, mw, hw'⟩, h1, h2⟩
def MacOk (d : PrgD) (m : Mac) : Prop := StOk d m.regs m.mem m.heads
theorem i64_zero : I64 0 := ⟨by decide, by decide⟩
theorem smp0_ok {d : PrgD} {m : Mac} (h : MacOk d m) : SmpOk d (smp0 m) := ⟨h, i64_zero, i64_zero⟩
theorem sampF_ok {d : PrgD} (hv : validB d = true) {x : Int} (hx : fitD d x = true) {m : Mac} (hm : MacOk d m) : ∀ (l : List Ins) (s : Smp), SmpOk d s → (∀ i ∈ l, suitB d i = true) → SmpOk d (l.foldl (stepM d x) s)
 | [], s, h, _ => h
 | i :: l, s, h, hl => sampF_ok hv hx hm l _ (stepM_ok hv hx h (hl i List.mem_cons_self)) fun j hj => hl j (List.mem_cons_of_mem _ hj)
theorem samp_take {d : PrgD} (hv : validB d = true) {x : Int} (hx : fitD d x = true) {m : Mac} (hm : MacOk d m) (k : Nat) : SmpOk d (sampF d x m (d.code.take k)) :=
 sampF_ok hv hx hm _ _ (smp0_ok hm) fun i hi => suit_mem hv i (List.mem_of_mem_take hi)
theorem samp_all {d : PrgD} (hv : validB d = true) {x : Int} (hx : fitD d x = true) {m : Mac} (hm : MacOk d m) : SmpOk d (sampF d x m d.code) :=
 sampF_ok hv hx hm _ _ (smp0_ok hm) fun i hi => suit_mem hv i hi
theorem macN_ok {d : PrgD} (hv : validB d = true) {x : Int} (hx : fitD d x = true) {m : Mac} (hm : MacOk d m) : MacOk d (macN d x m) := (samp_all hv hx hm).st
theorem runM_ok {d : PrgD} (hv : validB d = true) : ∀ (xs : List Int) (m : Mac), wordD d xs = true → MacOk d m → MacOk d (runM d m xs)
 | [], _, _, hm => hm
 | x :: xs, m, hx, hm => by
  unfold wordD wordsB at hx
  rw [List.all_cons, Bool.and_eq_true] at hx
  exact runM_ok hv xs _ hx.2 (macN_ok hv hx.1 hm)
def macB (d : PrgD) (m : Mac) : Bool :=
 validB d && (decide (m.regs.length = 8 ∧ m.mem.length = 128 ∧ m.heads.length = d.rg.length) && (wordD d m.regs && (wordD d m.mem && (headsB d.rg m.heads && (inB m.cyc 0 1099511627776 && inB m.stl 0 1099511627776)))))
theorem macB_parts {d : PrgD} {m : Mac} (h : macB d m = true) : validB d = true ∧ MacOk d m ∧ (0 ≤ m.cyc ∧ m.cyc ≤ 1099511627776) ∧ (0 ≤ m.stl ∧ m.stl ≤ 1099511627776) := by
 unfold macB at h
 simp only [Bool.and_eq_true, decide_eq_true_eq, inB_iff] at h
 obtain ⟨h1, ⟨h2, h3, h4⟩, h5, h6, h7, h8, h9⟩ := h
 exact ⟨h1, ⟨h2, h3, h4, h5, h6, h7⟩, h8, h9⟩
theorem macB_mk {d : PrgD} {m : Mac} (hv : validB d = true) (hm : MacOk d m) (hc : 0 ≤ m.cyc ∧ m.cyc ≤ 1099511627776) (hs : 0 ≤ m.stl ∧ m.stl ≤ 1099511627776) : macB d m = true := by
 unfold macB
 rw [hv, decide_eq_true ⟨hm.rl, hm.ml, hm.hl⟩, hm.rw, hm.mw, hm.hw, inB_iff.2 hc, inB_iff.2 hs]; rfl
end Go.Proofs.YtdiflpbioohddaaDoor
end
