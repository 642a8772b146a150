/- Several texts in one: H1 H2. -/
import Derived.Test.YtdiflpbioohddaaDoorhUtoU3
import Derived.StillTailTactics
set_option linter.unusedVariables false
set_option linter.unusedSimpArgs false
section
namespace Go.Proofs.YtdiflpbioohddaaDoor
open Go.RowKit
def rowF (l : List Int) (sign fr : Int) (k : Nat) : List (Int × Int) := (List.range l.length).map fun i => if i < k then (wrap64 (fr + i), wrap64 (sign * (l[i]?).getD 0)) else (0, 0)
theorem rowF_length (l : List Int) (sign fr : Int) (k : Nat) : (rowF l sign fr k).length = l.length := by simp [rowF]
theorem rowF_get {l : List Int} {sign fr : Int} {k i : Nat} (h : i < l.length) : (rowF l sign fr k)[i]? = some (if i < k then (wrap64 (fr + i), wrap64 (sign * (l[i]?).getD 0)) else (0, 0)) := by
  unfold rowF
  rw [List.getElem?_map, List.getElem?_range h]; rfl
theorem rowF_zero (l : List Int) (sign fr : Int) : rowF l sign fr 0 = List.replicate l.length (0, 0) := by
  apply List.ext_getElem?
  intro i
  rcases Nat.lt_or_ge i l.length with h | h
  · rw [rowF_get h, List.getElem?_replicate, if_pos h]; simp
  · rw [List.getElem?_eq_none (by rw [rowF_length]; exact h), List.getElem?_eq_none (by simpa using h)]
theorem rowF_succ {l : List Int} {sign fr : Int} {k : Nat} {x : Int} (h : l[k]? = some x) : rowF l sign fr (k + 1) = (rowF l sign fr k).set k (wrap64 (fr + k), wrap64 (sign * x)) := by
  have hk := (List.getElem?_eq_some_iff.1 h).1
  apply List.ext_getElem?
  intro i
  rw [List.getElem?_set, rowF_length]
  rcases Nat.lt_or_ge i l.length with h1 | h1
  · rw [rowF_get h1]
    by_cases e : k = i
    · subst e
      rw [if_pos rfl, if_pos hk, if_pos (by omega), h]; rfl
    · rw [if_neg e, rowF_get h1]
      by_cases h2 : i < k
      · rw [if_pos h2, if_pos (by omega)]
      · rw [if_neg h2, if_neg (by omega)]
  · rw [List.getElem?_eq_none (by rw [rowF_length]; exact h1), if_neg (by omega), List.getElem?_eq_none (by rw [rowF_length]; exact h1)]
theorem i64_w (x : Int) : I64 (wrap64 x) := by unfold I64 wrap64; omega
def RetTm (w : World) (ts : List (Int × Int)) (e : Ending) (w' : World) : Prop := ∃ v, e = .returned v ∧ OwnTm w.heap.size w' v ts ∧ Below w.heap.size w w'
set_option maxRecDepth 100000 in
set_option maxHeartbeats 2000000 in
theorem dr_row (A : Option Addr) (c n : Nat) (l : List Int) (sign fr : Int) (w : World) (h : Ints w A l) (hl : l.length = n) (hn : n ≤ 1000) :
    Calls Tryd.prog 64 #[.slice A n c, .int .i64 sign, .int .i64 fr] w (RetTm w (rowF l sign fr n)) := by
  have HL := Lib.hid hl
  have H := Lib.hid h
  have hx8 : n ≤ 100000000 := by omega
  clear hl h
  go_enter Tryd.func64, Tryd.ntmps64
  go_wp2_with (at_make; refine mk_term rfl _ _ rfl w.heap.size n rfl rfl rfl hx8 (Nat.le_refl _) ?_; intro w2 ho1 hb2)
  have HO := Lib.hid ho1
  have HB := Lib.hid hb2
  clear ho1 hb2
  go_loopw [15] (fun i wr => ∃ k : Nat, k ≤ n ∧ i = .int .i64 k ∧ OwnTm w.heap.size wr (.slice (some ⟨w.heap.size, 0, none⟩) n n) (rowF l sign fr k) ∧ Below w.heap.size w wr) (fun i _ => n - (intOf i).toNat)
  case atStart => exact ⟨0, Nat.zero_le _, rfl, by rw [rowF_zero, HL.out]; exact HO.out, HB.out⟩
  case round =>
    obtain ⟨k, hk, rfl, ho, hb⟩ := hrel
    by_cases hlt : k < n
    · obtain ⟨ad, x, rfl, hba, hx, cx, x1, x2⟩ := (H.out.grow hb).at_ (k := k) (by rw [HL.out]; exact hlt)
      have HS := Lib.hid (rowF_succ (sign := sign) (fr := fr) hx)
      have hg := rowF_get (l := l) (sign := sign) (fr := fr) (k := k) (i := k) (by rw [HL.out]; exact hlt)
      rw [if_neg (Nat.lt_irrefl _)] at hg
      obtain ⟨t0, t1⟩ := ho.cells hg
      have f0 := ho.free (k * 2)
      have f1 := ho.free (k * 2 + 1)
      have y1 : (0 : Int) ≤ (k : Int) := by omega
      have y2 : (k : Int) < (n : Int) := by omega
      clear hg hx
      have HO2 := Lib.hid ho
      have HB2 := Lib.hid hb
      clear ho hb
      go_wp2_with fail
      go_roundw
      case rel => exact ⟨k + 1, by omega, by go_num, by rw [HS.out]; exact HO2.out.set k (t := (wrap64 (fr + k), wrap64 (sign * x))) (i64_w _) (i64_w _), (HB2.out.setCell (p := ⟨w.heap.size, _, none⟩) (Nat.le_refl _) _).setCell (p := ⟨w.heap.size, _, none⟩) (Nat.le_refl _) _⟩
      case measure => simp [intOf]; omega
    · obtain rfl : k = n := by omega
      go_wp2_with fail
      go_ret
      exact ⟨_, rfl, ho, hb⟩
theorem flat_take {α : Type} {ns : List (List α)} {k : Nat} {ts : List α} (h : ns[k]? = some ts) : (ns.take (k + 1)).flatten = (ns.take k).flatten ++ ts := by
  rw [take_snoc' h, List.flatten_append]; simp
theorem flat_le {α : Type} {B : Nat} : ∀ {ns : List (List α)}, (∀ ts ∈ ns, ts.length ≤ B) → ns.flatten.length ≤ ns.length * B
  | [], _ => by simp
  | a :: l, h => by
    have h1 := flat_le (ns := l) fun ts ht => h ts (List.mem_cons_of_mem _ ht)
    have h2 := h a List.mem_cons_self
    rw [List.flatten_cons, List.length_append, List.length_cons, Nat.add_mul]
    omega
set_option maxRecDepth 100000 in
set_option maxHeartbeats 2000000 in
theorem dr_join (A : Option Addr) (c n : Nat) (ns : List (List (Int × Int))) (w : World) (h : NodesAt w A ns) (hl : ns.length = n) (hn : n ≤ 100) (hb : ∀ ts ∈ ns, ts.length ≤ 1000) :
    Calls Tryd.prog 63 #[.slice A n c] w (RetTm w ns.flatten) := by
  have HL := Lib.hid hl
  have H := Lib.hid h
  have HLE := Lib.hid hb
  clear hl h hb
  go_enter Tryd.func63, Tryd.ntmps63
  go_wp2_with fail
  go_loopw [3, 8] (fun v i wr => ∃ k : Nat, k ≤ n ∧ i = .int .i64 k ∧ OwnTm w.heap.size wr v (ns.take k).flatten ∧ Below w.heap.size w wr) (fun _ i _ => n - (intOf i).toNat)
  case atStart => exact ⟨0, Nat.zero_le _, rfl, by simpa using OwnTm.nil, Below.refl _ _⟩
  case round =>
    obtain ⟨k, hk, rfl, ho, hb⟩ := hrel
    by_cases hlt : k < n
    · obtain ⟨ts, hts⟩ : ∃ ts, ns[k]? = some ts := ⟨_, List.getElem?_eq_getElem (by rw [HL.out]; exact hlt)⟩
      obtain ⟨ad, B, bc, rfl, hba, cn, hT⟩ := (H.out.grow hb) k ts hts
      have HS := Lib.hid (flat_take hts)
      have hlt1 := HLE.out ts (List.mem_of_getElem? hts)
      have hlf : (ns.take k).flatten.length ≤ k * 1000 := by
        have := flat_le (ns := ns.take k) fun ts ht => HLE.out ts (List.mem_of_mem_take ht)
        rw [List.length_take, Nat.min_eq_left (by rw [HL.out]; exact hk)] at this
        exact this
      have HLF : Hid ((ns.take k).flatten.length ≤ 100000) := by show _ ≤ _; omega
      obtain ⟨m, hm⟩ : ∃ m, ts.length = m := ⟨_, rfl⟩
      rw [hm] at cn hlt1
      have HM := Lib.hid hm
      have y1 : (0 : Int) ≤ (k : Int) := by omega
      have y2 : (k : Int) < (n : Int) := by omega
      have HT := Lib.hid hT
      have HO := Lib.hid ho
      have hsz := hb.size
      have HB := Lib.hid hb
      have HV := Lib.hid (fun q hq => (ho.1.lt q hq).1)
      clear hts hlf hT hm ho hb
      go_wp2_with (at_builtin; refine app_terms wr rfl _ _ rfl w.heap.size rfl rfl HO.out HT.out HM.out (by have := HLF.out; omega) hsz ?_; intro v3 w3 ho3 hg3 hob3)
      go_roundw
      case rel => exact ⟨k + 1, by omega, by go_num, by rw [HS.out]; exact ho3, HB.out.grown hg3 HB.out.size (fun q hq => HV.out q hq)⟩
      case measure => simp [intOf]; omega
    · obtain rfl : k = n := by omega
      go_wp2_with fail
      go_ret
      exact ⟨_, rfl, by have := ho; rw [← HL.out, List.take_length] at this; exact this, hb⟩
def dlF (L : List Int) (o : Nat) (first source : Int) (k : Nat) : List Int := (List.range L.length).map fun i => if o ≤ i ∧ i < o + k then (if i = o then source else wrap64 (wrap64 (first + ((i - o : Nat) : Int)) - 1)) else (L[i]?).getD 0
theorem dlF_length (L : List Int) (o : Nat) (f s : Int) (k : Nat) : (dlF L o f s k).length = L.length := by simp [dlF]
theorem dlF_get {L : List Int} {o : Nat} {f s : Int} {k i : Nat} (h : i < L.length) : (dlF L o f s k)[i]? = some (if o ≤ i ∧ i < o + k then (if i = o then s else wrap64 (wrap64 (f + ((i - o : Nat) : Int)) - 1)) else (L[i]?).getD 0) := by
  unfold dlF
  rw [List.getElem?_map, List.getElem?_range h]; rfl
theorem dlF_zero (L : List Int) (o : Nat) (f s : Int) : dlF L o f s 0 = L := by
  apply List.ext_getElem?
  intro i
  rcases Nat.lt_or_ge i L.length with h | h
  · rw [dlF_get h, if_neg (by omega), List.getElem?_eq_getElem h]; rfl
  · rw [List.getElem?_eq_none (by rw [dlF_length]; exact h), List.getElem?_eq_none h]
theorem dlF_succ {L : List Int} {o : Nat} {f s : Int} {k : Nat} (h : o + k < L.length) : dlF L o f s (k + 1) = (dlF L o f s k).set (o + k) (if k = 0 then s else wrap64 (wrap64 (f + (k : Int)) - 1)) := by
  apply List.ext_getElem?
  intro i
  rw [List.getElem?_set, dlF_length]
  rcases Nat.lt_or_ge i L.length with h1 | h1
  · rw [dlF_get h1]
    by_cases e : o + k = i
    · subst e
      rw [if_pos rfl, if_pos h, if_pos (by omega), show o + k - o = k by omega]
      by_cases hk : k = 0
      · rw [if_pos (by omega), if_pos hk]
      · rw [if_neg (by omega), if_neg hk]
    · rw [if_neg e, dlF_get h1]
      by_cases h2 : o ≤ i ∧ i < o + k
      · rw [if_pos h2, if_pos (by omega)]
      · rw [if_neg h2, if_neg (by omega)]
  · rw [List.getElem?_eq_none (by rw [dlF_length]; exact h1), if_neg (by omega), List.getElem?_eq_none (by rw [dlF_length]; exact h1)]
theorem add_cellsO (g o k : Nat) : (⟨g, o, none⟩ : Addr).add k = ⟨g, o + k, none⟩ := by
  unfold Addr.add
  by_cases h0 : k = 0 <;> simp [h0]
set_option maxRecDepth 100000 in
set_option maxHeartbeats 2000000 in
theorem dr_delay (base g o m N C C' : Nat) (L : List Int) (first source : Int) (w : World) (h : Own base w (.slice (some ⟨g, 0, none⟩) N C) L) (hl : L.length = N) (hm : o + m ≤ N) (hN : N ≤ 1000) (hs : I64 source) :
    Calls Tryd.prog 65 #[.slice (some ⟨g, o, none⟩) m C', .int .i64 first, .int .i64 source] w fun e w' => e = .returned (.tuple #[]) ∧ Own base w' (.slice (some ⟨g, 0, none⟩) N C) (dlF L o first source m) ∧ w.grownBy w' (some g) := by
  have HL := Lib.hid hl
  have H := Lib.hid h
  have HS := Lib.hid hs
  clear hl h hs
  go_enter Tryd.func65, Tryd.ntmps65
  go_wp2_with fail
  go_loopw [9] (fun i wr => ∃ k : Nat, k ≤ m ∧ i = .int .i64 k ∧ Own base wr (.slice (some ⟨g, 0, none⟩) N C) (dlF L o first source k) ∧ w.grownBy wr (some g)) (fun i _ => m - (intOf i).toNat)
  case atStart => exact ⟨0, Nat.zero_le _, rfl, by rw [dlF_zero]; exact H.out, grown_refl _ _⟩
  case round =>
    obtain ⟨k, hk, rfl, ho, hb⟩ := hrel
    by_cases hlt : k < m
    · have HU := Lib.hid (dlF_succ (L := L) (o := o) (f := first) (s := source) (k := k) (by rw [HL.out]; omega))
      have ct := ho.cell (dlF_get (L := L) (o := o) (f := first) (s := source) (k := k) (i := o + k) (by rw [HL.out]; omega))
      have cf := ho.free (o + k)
      have hA := add_cellsO g o k
      have y1 : (0 : Int) ≤ (k : Int) := by omega
      have y2 : (k : Int) < (m : Int) := by omega
      have HO := Lib.hid ho
      have HB := Lib.hid hb
      rw [if_neg (by omega)] at ct
      clear ho hb
      by_cases hk0 : k = 0
      · rw [if_pos hk0] at HU
        have e0 : ((k : Int) == 0) = true := by simp; omega
        clear hk0
        go_wp2_with fail
        go_roundw
        case rel => exact ⟨k + 1, by omega, by go_num, by rw [HU.out]; exact HO.out.set (o + k) HS.out, grown_set HB.out⟩
        case measure => simp [intOf]; omega
      · rw [if_neg hk0] at HU
        have e0 : ((k : Int) == 0) = false := by simp; omega
        clear hk0
        go_wp2_with fail
        go_roundw
        case rel => exact ⟨k + 1, by omega, by go_num, by rw [HU.out]; exact HO.out.set (o + k) (i64_w _), grown_set HB.out⟩
        case measure => simp [intOf]; omega
    · obtain rfl : k = m := by omega
      have HO := Lib.hid ho
      have HB := Lib.hid hb
      clear ho hb
      go_wp2_with fail
      go_end0
      exact ⟨rfl, HO.out, HB.out⟩
theorem fits_24 {b f r o v : Int} (h : fitsW b f r o v = true) : -9223372036854775807 ≤ v ∧ v ≤ 9223372036854775807 := by
  unfold fitsW at h
  rw [Bool.and_eq_true, inB_iff] at h
  have := low_high b f r o
  omega
set_option maxRecDepth 100000 in
set_option maxHeartbeats 2000000 in
theorem dr_wrong (A B : Option Addr) (ca cb na nb : Nat) (a b : List Int) (d c : Int × Int × Int × Int) (w : World) (hA : Ints w A a) (hB : Ints w B b) (ha : a.length = na) (hb : b.length = nb)
    (hd : okW d.1 d.2.1 d.2.2.1 d.2.2.2 = true) (hc : okW c.1 c.2.1 c.2.2.1 c.2.2.2 = true) (hn : 1 ≤ nb ∧ nb ≤ 49 ∧ na ≤ 8) (fb : ∀ v ∈ b, fitsW c.1 c.2.1 c.2.2.1 c.2.2.2 v = true) (fa : ∀ v ∈ a, fitsW c.1 c.2.1 c.2.2.1 c.2.2.2 v = true ∧ fitsW c.1 c.2.1 c.2.2.1 c.2.2.2 (-v) = true) :
    Calls Tryd.prog 62 #[.slice B nb cb, .slice A na ca, wordV d.1 d.2.1 d.2.2.1 d.2.2.2, wordV c.1 c.2.1 c.2.2.1 c.2.2.2] w fun e w' => e = .returned (.int .i64 0) ∧ Below w.heap.size w w' := by
  obtain ⟨d0, d1, d2, d3⟩ := d
  obtain ⟨c0, c1, c2, c3⟩ := c
  obtain ⟨n1, n2, n3⟩ := hn
  simp only at hd hc fb fa ⊢
  have HD := Lib.hid hd
  have HC := Lib.hid hc
  have FB := Lib.hid fb
  have FA := Lib.hid fa
  have HLA := Lib.hid ha
  have HLB := Lib.hid hb
  have HA := Lib.hid hA
  have HB := Lib.hid hB
  have BX : Hid (∀ w', Below ((w.alloc (.cells #[.int .i64 d0, .int .i64 d1, .int .i64 d2, .int .i64 d3] 23)).alloc (.cells #[.int .i64 c0, .int .i64 c1, .int .i64 c2, .int .i64 c3] 23)).heap.size ((w.alloc (.cells #[.int .i64 d0, .int .i64 d1, .int .i64 d2, .int .i64 d3] 23)).alloc (.cells #[.int .i64 c0, .int .i64 c1, .int .i64 c2, .int .i64 c3] 23)) w' →
      w'.cell? ⟨w.heap.size + 1, 0, none⟩ = some (.int .i64 c0) ∧ w'.cell? ⟨w.heap.size + 1, 1, none⟩ = some (.int .i64 c1) ∧ w'.cell? ⟨w.heap.size + 1, 2, none⟩ = some (.int .i64 c2) ∧ w'.cell? ⟨w.heap.size + 1, 3, none⟩ = some (.int .i64 c3) ∧ Below w.heap.size w w') := fun w' h =>
    ⟨(h.cell (by simp)).trans (by simp [go_sem]), (h.cell (by simp)).trans (by simp [go_sem]), (h.cell (by simp)).trans (by simp [go_sem]), (h.cell (by simp)).trans (by simp [go_sem]), (((Below.refl _ _).alloc (Nat.le_refl _) _).alloc (by simp) _).trans (h.mono (by simp; omega))⟩
  have x1 : ((nb : Int) == 0) = false := by simp; omega
  have x2 : decide ((49 : Int) < (nb : Int)) = false := by simp; omega
  have x3 : decide ((8 : Int) < (na : Int)) = false := by simp; omega
  clear hd hc fb fa ha hb hA hB
  go_enter Tryd.func62, Tryd.ntmps62
  have BY := BX
  go_wp2_with (first | (go_at_call 67; with_reducible refine (fx_Valid_is (b := d0) (f := d1) (r := d2) (o := d3) HD.out _).mono ?_; rintro e w1 ⟨rfl, hb1⟩; obtain ⟨z1, z2, z3, z4, hb⟩ := BX.out _ hb1) | (go_at_call 67; with_reducible refine (fx_Valid_is (b := c0) (f := c1) (r := c2) (o := c3) HC.out _).mono ?_; rintro e w2 ⟨rfl, hb2⟩; have hbb := below_then hb1 hb2; obtain ⟨z1, z2, z3, z4, hb⟩ := BX.out _ hbb))
  clear x1 x2 x3 z1 z2 z3 z4 hb1 hb2 BX
  have HBB := Lib.hid hbb
  have HB0 := Lib.hid hb
  clear hbb hb
  have BX : Hid (∀ w', Below w2.heap.size w2 w' → w'.cell? ⟨w.heap.size + 1, 0, none⟩ = some (.int .i64 c0) ∧ w'.cell? ⟨w.heap.size + 1, 1, none⟩ = some (.int .i64 c1) ∧ w'.cell? ⟨w.heap.size + 1, 2, none⟩ = some (.int .i64 c2) ∧ w'.cell? ⟨w.heap.size + 1, 3, none⟩ = some (.int .i64 c3) ∧ Below w.heap.size w w') := fun w' h => BY.out w' (below_then HBB.out h)
  clear HBB BY
  go_loopw [36] (fun i wr => ∃ k : Nat, k ≤ nb ∧ i = .int .i64 k ∧ Below w2.heap.size w2 wr) (fun i _ => nb - (intOf i).toNat)
  case atStart => exact ⟨0, Nat.zero_le _, rfl, Below.refl _ _⟩
  case round =>
    obtain ⟨k, hk, rfl, hb⟩ := hrel
    obtain ⟨z1, z2, z3, z4, hbo⟩ := BX.out _ hb
    by_cases hlt : k < nb
    · obtain ⟨ad, x, rfl, hba, hx, cx, i1, i2⟩ := (HB.out.grow hbo).at_ (k := k) (by rw [HLB.out]; exact hlt)
      have HFX := Lib.hid (FB.out x (List.mem_of_getElem? hx))
      have HBK := Lib.hid hb
      have y1 : (0 : Int) ≤ (k : Int) := by omega
      have y2 : (k : Int) < (nb : Int) := by omega
      clear hx hb
      go_wp2_with (first | (go_at_call 40; refine (fx_Fits _ _ _ _ _ _).mono ?_; rintro e w5 ⟨rfl, hb5⟩; rw [HFX.out]))
      go_roundw
      case rel => exact ⟨k + 1, by omega, by go_num, below_then HBK.out hb5⟩
      case measure => simp [intOf]; omega
    · obtain rfl : k = nb := by omega
      have HBK := Lib.hid hb
      clear hb
      go_wp2_with fail
      clear z1 z2 z3 z4 hbo
      obtain ⟨wo, rfl⟩ : ∃ wo : World, wo = wr := ⟨_, rfl⟩
      go_loopw [47] (fun i wr => ∃ k : Nat, k ≤ na ∧ i = .int .i64 k ∧ Below w2.heap.size w2 wr) (fun i _ => na - (intOf i).toNat)
      case atStart => exact ⟨0, Nat.zero_le _, rfl, HBK.out⟩
      case round =>
        obtain ⟨j, hj, rfl, hb⟩ := hrel
        obtain ⟨z1, z2, z3, z4, hbo⟩ := BX.out _ hb
        by_cases hlt : j < na
        · obtain ⟨ad, x, rfl, hba, hx, cx, i1, i2⟩ := (HA.out.grow hbo).at_ (k := j) (by rw [HLA.out]; exact hlt)
          have HFX := Lib.hid (FA.out x (List.mem_of_getElem? hx))
          have hx24 := fits_24 HFX.out.1
          have HBK := Lib.hid hb
          have y1 : (0 : Int) ≤ (j : Int) := by omega
          have y2 : (j : Int) < (na : Int) := by omega
          clear hx hb
          go_wp2_with (first
            | (go_at_call 40; with_reducible refine (fx_Fits c0 c1 c2 c3 x _).mono ?_; rintro e w5 ⟨rfl, hb5⟩; rw [HFX.out.1]; have hb6 := below_then HBK.out hb5; obtain ⟨y1, y2, y3, y4, _⟩ := BX.out _ hb6)
            | (go_at_call 40; with_reducible refine (fx_Fits c0 c1 c2 c3 (-x) _).mono ?_; rintro e w6 ⟨rfl, hb7⟩; rw [HFX.out.2]; have hb8 := below_then hb6 hb7))
          go_roundw
          case rel => exact ⟨j + 1, by omega, by go_num, hb8⟩
          case measure => simp [intOf]; omega
        · obtain rfl : j = na := by omega
          go_wp2_with fail
          go_ret
          exact ⟨rfl, hbo⟩
end Go.Proofs.YtdiflpbioohddaaDoor
end
section
namespace Go.Proofs.YtdiflpbioohddaaDoor
open Go.RowKit
theorem own_made {w : World} {base S g : Nat} (hg : g = w.heap.size) (hb : base ≤ w.heap.size) (hS : S ≤ 100000000) : Own base (w.alloc (.cells (madeCells #[Value.int .i64 0] S) 3)) (.slice (some ⟨g, 0, none⟩) S S) (List.replicate S 0) := by
  subst hg
  refine ⟨?_, fun q hq => by rw [List.eq_of_mem_replicate hq]; exact ⟨by decide, by decide⟩⟩
  have h := World.ownsRow_lit w (e := 3) (base := base) (size := 1) (madeCells #[Value.int .i64 0] S) S hb (by unfold maxLen; omega) (by rw [size_madeCells]; omega)
  have e := zeros_cells S
  rw [Nat.mul_one] at e
  rw [List.length_replicate]
  rw [show (madeCells #[Value.int .i64 0] S).toList = (List.replicate S (0 : Int)).map (Value.int .i64) from e] at h
  exact h
theorem nodes_two {w : World} {A2 A3 : Option Addr} {c2 c3 n2 n3 : Nat} {r2 r3 : List (Int × Int)} {t : TypeId} (h2 : TermsAt (w.alloc (.cells #[.slice A2 n2 c2, .slice A3 n3 c3] t)) A2 r2) (h3 : TermsAt (w.alloc (.cells #[.slice A2 n2 c2, .slice A3 n3 c3] t)) A3 r3) (l2 : r2.length = n2) (l3 : r3.length = n3) :
    NodesAt (w.alloc (.cells #[.slice A2 n2 c2, .slice A3 n3 c3] t)) (some ⟨w.heap.size, 0, none⟩) [r2, r3] := fun k ts hk => by
  subst l2 l3
  match k, hk with
  | 0, hk =>
    simp at hk; subst hk
    exact ⟨_, A2, c2, rfl, by simp, by simp [go_sem, Addr.add], h2⟩
  | 1, hk =>
    simp at hk; subst hk
    exact ⟨_, A3, c3, rfl, by simp, by simp [go_sem, Addr.add], h3⟩
theorem nodes_one {w : World} {g n c : Nat} {A : Option Addr} {ts : List (Int × Int)} (h : Box w g [.slice A n c]) (hT : TermsAt w A ts) (hn : ts.length = n) : NodesAt w (some ⟨g, 0, none⟩) [ts] := fun k t hk => by
  subst hn
  match k, hk with
  | 0, hk =>
    simp at hk; subst hk
    exact ⟨_, A, c, rfl, h.1, h.2.1 0, hT⟩
theorem dr_delay_if (base h I S : Nat) (L : List Int) (first source : Int) (w : World) (ho : Own base w (.slice (some ⟨h, 0, none⟩) S S) L) (hl : L.length = S) (hm : I ≤ S) (hN : S ≤ 1000) (hs : I64 source) :
    Calls Tryd.prog 65 #[.slice (if S = I then some ⟨h, 0, none⟩ else some ⟨h, I, none⟩) (S - I) (S - I), .int .i64 first, .int .i64 source] w fun e w' => e = .returned (.tuple #[]) ∧ Own base w' (.slice (some ⟨h, 0, none⟩) S S) (dlF L I first source (S - I)) ∧ w.grownBy w' (some h) := by
  by_cases e : S = I
  · rw [if_pos e]
    have := dr_delay base h 0 (S - I) S S (S - I) L first source w ho hl (by omega) hN hs
    rw [show S - I = 0 by omega] at this ⊢
    rw [dlF_zero] at this ⊢
    exact this
  · rw [if_neg e]
    exact dr_delay base h I (S - I) S S (S - I) L first source w ho hl (by omega) hN hs
def RetNet (w : World) (d c : Int × Int × Int × Int) (st : Int) (ns : List (List (Int × Int))) (nx : List Int) (out E : Int) (e : Ending) (w' : World) : Prop :=
  ∃ NA nc XA xc, e = .returned (.tuple #[netV d.1 d.2.1 d.2.2.1 d.2.2.2 c.1 c.2.1 c.2.2.1 c.2.2.2 st NA ns.length nc XA nx.length xc out, .int .i64 E]) ∧ NodesAt w' NA ns ∧ Ints w' XA nx ∧ Below w.heap.size w w'
def oneNx (I K : Nat) : List Int := dlF (dlF (List.replicate (I + K) 0) 0 1 0 I) I ((I : Int) + 1) ((I : Int) + K + 1) K
def oneNs (b a : List Int) (I K : Nat) : List (List (Int × Int)) := [rowF b 1 0 (I + 1) ++ rowF a (-1) ((I : Int) + 1) K]
set_option maxRecDepth 100000 in
set_option maxHeartbeats 4000000 in
theorem dr_FormOne (A B : Option Addr) (ca cb I K : Nat) (a b : List Int) (d c : Int × Int × Int × Int) (w : World) (hA : Ints w A a) (hB : Ints w B b) (ha : a.length = K) (hb : b.length = I + 1)
    (hd : okW d.1 d.2.1 d.2.2.1 d.2.2.2 = true) (hc : okW c.1 c.2.1 c.2.2.1 c.2.2.2 = true) (hn : I ≤ 48 ∧ K ≤ 8) (fb : ∀ v ∈ b, fitsW c.1 c.2.1 c.2.2.1 c.2.2.2 v = true) (fa : ∀ v ∈ a, fitsW c.1 c.2.1 c.2.2.1 c.2.2.2 v = true ∧ fitsW c.1 c.2.1 c.2.2.1 c.2.2.2 (-v) = true) :
    Calls Tryd.prog 28 #[.slice B (I + 1) cb, .slice A K ca, wordV d.1 d.2.1 d.2.2.1 d.2.2.2, wordV c.1 c.2.1 c.2.2.1 c.2.2.2] w (RetNet w d c ((I : Int) + K) (oneNs b a I K) (oneNx I K) ((I : Int) + K + 1) 0) := by
  have QW : Hid (∀ w, Ints w A a → Ints w B b → Calls Tryd.prog 62 #[.slice B (I + 1) cb, .slice A K ca, wordV d.1 d.2.1 d.2.2.1 d.2.2.2, wordV c.1 c.2.1 c.2.2.1 c.2.2.2] w fun e w' => e = .returned (.int .i64 0) ∧ Below w.heap.size w w') := fun w h1 h2 => dr_wrong A B ca cb K (I + 1) a b d c w h1 h2 ha hb hd hc (by omega) fb fa
  obtain ⟨d0, d1, d2, d3⟩ := d
  obtain ⟨c0, c1, c2, c3⟩ := c
  obtain ⟨n1, n2⟩ := hn
  simp only at QW ⊢
  have HLA := Lib.hid ha
  have HLB := Lib.hid hb
  have HA := Lib.hid hA
  have HB := Lib.hid hB
  clear hd hc fb fa ha hb hA hB
  obtain ⟨S, hS⟩ : ∃ S, I + K = S := ⟨_, rfl⟩
  have e1 : IntKind.i64.wrap ((I : Int) + (K : Int)) = (S : Int) := by rw [← hS]; exact (IntWalk.i64_in _ (by omega)).trans (by omega)
  have hSe : (I : Int) + K = (S : Int) := by omega
  have HSE := Lib.hid hSe
  have hS2 : S ≤ 56 := by omega
  have HBW := Lib.hid (((Below.refl w.heap.size w).alloc (Nat.le_refl _) (.cells #[.int .i64 d0, .int .i64 d1, .int .i64 d2, .int .i64 d3] 23)).alloc (by simp) (.cells #[.int .i64 c0, .int .i64 c1, .int .i64 c2, .int .i64 c3] 23))
  have HZ : Hid (∀ o, Below w.heap.size w (((w.alloc (.cells #[.int .i64 d0, .int .i64 d1, .int .i64 d2, .int .i64 d3] 23)).alloc (.cells #[.int .i64 c0, .int .i64 c1, .int .i64 c2, .int .i64 c3] 23)).alloc o)) := fun o => HBW.out.alloc (by simp; omega) o
  have hD : ∀ o, Box (((w.alloc (.cells #[.int .i64 d0, .int .i64 d1, .int .i64 d2, .int .i64 d3] 23)).alloc (.cells #[.int .i64 c0, .int .i64 c1, .int .i64 c2, .int .i64 c3] 23)).alloc o) w.heap.size [.int .i64 d0, .int .i64 d1, .int .i64 d2, .int .i64 d3] := fun o => ((Box.new (vs := #[.int .i64 d0, .int .i64 d1, .int .i64 d2, .int .i64 d3]) rfl).alloc _).alloc _
  have hC : ∀ o, Box (((w.alloc (.cells #[.int .i64 d0, .int .i64 d1, .int .i64 d2, .int .i64 d3] 23)).alloc (.cells #[.int .i64 c0, .int .i64 c1, .int .i64 c2, .int .i64 c3] 23)).alloc o) (w.heap.size + 1) [.int .i64 c0, .int .i64 c1, .int .i64 c2, .int .i64 c3] := fun o => ((Box.new (vs := #[.int .i64 c0, .int .i64 c1, .int .i64 c2, .int .i64 c3]) (by simp))).alloc _
  have hR : ∀ (vs : Array Value) t, Box (((w.alloc (.cells #[.int .i64 d0, .int .i64 d1, .int .i64 d2, .int .i64 d3] 23)).alloc (.cells #[.int .i64 c0, .int .i64 c1, .int .i64 c2, .int .i64 c3] 23)).alloc (.cells vs t)) (w.heap.size + 1 + 1) vs.toList := fun vs t => Box.new (by simp)
  have HDB := Lib.hid hD
  have HCB := Lib.hid hC
  have HRB := Lib.hid hR
  clear hD hC hR hS hSe
  go_enter Tryd.func28, Tryd.ntmps28
  go_wp2_with fail
  refine (QW.out _ (HA.out.grow (HZ.out _)) (HB.out.grow (HZ.out _))).mono ?_
  rintro e w1 ⟨rfl, hb1⟩
  have hD := (HDB.out _).keep hb1
  have hC := (HCB.out _).keep hb1
  have hR := (HRB.out _ _).keep hb1
  have hb := (HZ.out _).trans (hb1.mono (HZ.out _).size)
  obtain ⟨p0, p1, p2, p3⟩ := hD.c4
  obtain ⟨q0, q1, q2, q3⟩ := hC.c4
  have hlt := hR.1
  have hlt1 := hC.1
  have hlt0 := hD.1
  have HD := Lib.hid hD
  have HC := Lib.hid hC
  have HR := Lib.hid hR
  have HBB := Lib.hid hb
  have hmk : ∀ w, (Instr.makeSlice 25 (.int .i64 (S : Int)) (.int .i64 (S : Int))).run Tryd.prog w = .ok (.slice (some ⟨w.heap.size, 0, none⟩) S S) (w.alloc (.cells (madeCells (Value.int .i64 0).cells (S * 1)) 3)) := fun w => by
    obtain ⟨i0, hi, hz0, hz1, hz2⟩ := info_parts info_int
    have := run_make (P := Tryd.prog) w 25 3 i0 (.int .i64 0) Tryd.underlying25 hi hz0 .i64 .i64 (S : Int) (S : Int) (by omega) (by omega) (by rw [hz2]; omega) (by omega)
    rw [hz1, Int.toNat_natCast] at this
    exact this
  clear hb1 hb HDB HCB HRB HZ HBW hD hC hR
  go_upto_region 6 with fail
  go_cut [13] (fun s13 wx => ∃ g h : Nat, s13 = .pointer (some ⟨g, 0, none⟩) ∧ Box wx g [.int .i64 d0, .int .i64 d1, .int .i64 d2, .int .i64 d3, .int .i64 c0, .int .i64 c1, .int .i64 c2, .int .i64 c3, .int .i64 S, .slice none 0 0, .slice (some ⟨h, 0, none⟩) S S, .int .i64 ((S : Int) + 1)] ∧
    Own w1.heap.size wx (.slice (some ⟨h, 0, none⟩) S S) (List.replicate S 0) ∧ g ≠ h ∧ w1.heap.size ≤ g ∧ Below w1.heap.size w1 wx)
  case first =>
    go_region
    all_goals
      go_wp2_with fail
      go_meet
      first
        | (refine ⟨w1.heap.size + 1, w1.heap.size, rfl, ?_, ?_, by omega, by omega, by go_grown⟩; exact (Box.new (vs := #[.int .i64 d0, .int .i64 d1, .int .i64 d2, .int .i64 d3, .int .i64 c0, .int .i64 c1, .int .i64 c2, .int .i64 c3, .int .i64 S, .slice none 0 0, .slice (some ⟨w1.heap.size, 0, none⟩) S S, .int .i64 ((S : Int) + 1)]) (by simp)).drew; exact ((own_made rfl (Nat.le_refl _) (by omega)).grow (Below.alloc (Below.refl _ _) (Nat.le_refl _) _)).grow (Below.drew (Below.refl _ _)))
        | (refine ⟨w1.heap.size, w1.heap.size + 1, rfl, ?_, ?_, by omega, by omega, by go_grown⟩; exact ((Box.new (vs := #[.int .i64 d0, .int .i64 d1, .int .i64 d2, .int .i64 d3, .int .i64 c0, .int .i64 c1, .int .i64 c2, .int .i64 c3, .int .i64 S, .slice none 0 0, .slice (some ⟨w1.heap.size + 1, 0, none⟩) S S, .int .i64 ((S : Int) + 1)]) rfl).alloc _).drew; exact (own_made (by simp) (by simp) (by omega)).grow (Below.drew (Below.refl _ _)))
  case rest =>
    obtain ⟨g, h, rfl, hG, hO, hne, hgb, hbx⟩ := hcut
    have hD := HD.out.keep hbx
    have hC := HC.out.keep hbx
    have hR := HR.out.keep hbx
    have hb := below_then HBB.out hbx
    have HG := Lib.hid hG
    have HO := Lib.hid hO
    have hO2 := hO.block
    obtain ⟨⟨y1, y2, y3, y4⟩, ⟨y5, y6, y7, y8⟩, y9, y10, y11, y12⟩ := hG.c12
    clear hG hO hmk p0 p1 p2 p3 q0 q1 q2 q3
    have HH := Lib.hid hO2
    clear y1 y2 y3 y4 y5 y6 y7 y8 y9 y10 y11 y12
    go_wp2_with fail
    refine (dr_row B cb (I + 1) b 1 0 _ (HB.out.grow hb) HLB.out (by omega)).mono ?_
    rintro e w2 ⟨v2, rfl, ho2, hb2⟩
    obtain ⟨A2, c2', e2, _, i2⟩ := ho2.form
    rw [rowF_length, HLB.out] at e2
    subst e2
    have hb := below_then hb hb2
    have hwc := hb2
    clear ho2
    go_wp2_with fail
    refine (dr_row A ca K a (-1) ((I : Int) + 1) _ (HA.out.grow hb) HLA.out (by omega)).mono ?_
    rintro e w3 ⟨v3, rfl, ho3, hb3⟩
    obtain ⟨A3, c3', e3, _, i3⟩ := ho3.form
    rw [rowF_length, HLA.out] at e3
    subst e3
    have hb := below_then hb hb3
    have hwc := below_then hwc hb3
    have i2 := i2.grow hb3
    clear ho3
    go_wp2_with fail
    have i3a := i3.grow (Below.alloc (Below.refl _ _) (Nat.le_refl _) (.cells #[.slice A2 (I + 1) c2', .slice A3 K c3'] 34))
    have i2a := i2.grow (Below.alloc (Below.refl _ _) (Nat.le_refl _) (.cells #[.slice A2 (I + 1) c2', .slice A3 K c3'] 34))
    have l2 := (rowF_length b 1 0 (I + 1)).trans HLB.out
    have l3 := (rowF_length a (-1) ((I : Int) + 1) K).trans HLA.out
    obtain ⟨r2, hr2⟩ : ∃ r, rowF b 1 0 (I + 1) = r := ⟨_, rfl⟩
    obtain ⟨r3, hr3⟩ : ∃ r, rowF a (-1) ((I : Int) + 1) K = r := ⟨_, rfl⟩
    rw [hr2] at i2a l2
    rw [hr3] at i3a l3
    have HR2 := Lib.hid hr2
    have HR3 := Lib.hid hr3
    clear hr2 hr3 i2 i3
    refine (dr_join (some ⟨w3.heap.size, 0, none⟩) 2 2 [r2, r3] _ (nodes_two i2a i3a l2 l3) rfl (by omega) (fun ts ht => by simp at ht; rcases ht with rfl | rfl <;> omega)).mono ?_
    rintro e w4 ⟨v4, rfl, ho4, hb4⟩
    obtain ⟨A4, c4, e4, _, i4⟩ := ho4.form
    have l4 : [r2, r3].flatten.length = S + 1 := by have := HSE.out; simp; omega
    rw [l4] at e4
    subst e4
    have hwc := (hwc.trans ((Below.alloc (Below.refl w3.heap.size w3) (Nat.le_refl _) (.cells #[.slice A2 (I + 1) c2', .slice A3 K c3'] 34)).mono hwc.size)).trans (hb4.mono (by simp; have := hwc.size; omega))
    have hA4 : ∀ a, A4 = some a → wc.heap.size ≤ a.block := fun a e => by
      have h1 := (ho4.1.lt a.block (by rw [e]; rfl)).1
      have h2 := hb3.size
      have h3 := hb2.size
      simp at h1
      omega
    have hgc := HG.out.1
    have hG := HG.out.keep hwc
    have hO := HO.out.grow hwc
    have hD := hD.keep hwc
    have hC := hC.keep hwc
    have hR := hR.keep hwc
    have hb := below_then (below_then HBB.out hbx) hwc
    have HA4 := Lib.hid hA4
    have L4 := Lib.hid l4
    obtain ⟨⟨y1, y2, y3, y4⟩, ⟨y5, y6, y7, y8⟩, y9, y10, y11, y12⟩ := hG.c12
    have hf := hG.2.2
    have hgl := hG.1
    have HG := Lib.hid hG
    have HO := Lib.hid hO
    have HD := Lib.hid hD
    have HC := Lib.hid hC
    have HR := Lib.hid hR
    have HBB := Lib.hid hb
    have I4 := Lib.hid i4
    have HWC := Lib.hid hwc
    have hIS : I ≤ S := by have := HSE.out; omega
    have hg4 : h < w4.heap.size := Nat.lt_of_lt_of_le hO2.2 hwc.size
    clear hb2 hb3 hb4 ho4 i2a i3a hwc hb hR hC hD hO hG hbx hA4 l4 i4
    go_wp2_with fail
    have ho5 := ((HO.out.other (k := 9) (u := .slice (some ⟨w4.heap.size, 0, none⟩) 1 1) (fun e => hne e.symm)).grow (Below.alloc (Below.refl _ _) (Nat.le_refl _) (.cells #[.slice A4 (S + 1) c4] 36)))
    refine (dr_delay w1.heap.size h 0 I S S S (List.replicate S 0) 1 0 _ ho5 (by simp) (by omega) (by omega) ⟨by decide, by decide⟩).mono ?_
    rintro e w6 ⟨rfl, ho6, hg6⟩
    have hsz6 := hg6.size
    simp only [World.size_alloc, World.size_setCell] at hsz6
    have hG : Box w6 g [.int .i64 d0, .int .i64 d1, .int .i64 d2, .int .i64 d3, .int .i64 c0, .int .i64 c1, .int .i64 c2, .int .i64 c3, .int .i64 S, .slice (some ⟨w4.heap.size, 0, none⟩) 1 1, .slice (some ⟨h, 0, none⟩) S S, .int .i64 ((S : Int) + 1)] := ((HG.out.set (k := 9)).alloc _).grown hg6 (fun e => hne (by injection e))
    have hB9 : Box w6 w4.heap.size [.slice A4 (S + 1) c4] := (Box.new (by simp)).grown hg6 (fun e => by injection e with e; omega)
    have hT6 : TermsAt w6 A4 [r2, r3].flatten := ((I4.out.grown (grown_set (grown_refl w4 (some g))) (fun a e hc => by have := HA4.out a e; injection hc with hc; omega)).grow (Below.alloc (Below.refl _ _) (Nat.le_refl _) (.cells #[.slice A4 (S + 1) c4] 36))).grown hg6 (fun a e hc => by have := HA4.out a e; injection hc with hc; have := hO2.2; omega)
    have hD6 : Box w6 w.heap.size [.int .i64 d0, .int .i64 d1, .int .i64 d2, .int .i64 d3] := (((HD.out.past (fun e => by omega))).alloc _).grown hg6 (fun e => by injection e with e; have := hO2.1; omega)
    have hR6 := (((HR.out.past (b := g) (k := 9) (u := .slice (some ⟨w4.heap.size, 0, none⟩) 1 1) (fun e => by omega))).alloc (.cells #[.slice A4 (S + 1) c4] 36)).grown hg6 (fun e => by injection e with e; have := hO2.1; omega)
    have hw6 : Below w.heap.size w w6 := grown_to ((HBB.out.setCell (p := ⟨g, 9, none⟩) (by show _ ≤ g; omega) _).alloc (by have := HBB.out.size; simp; omega) _) hg6 (by have := hO2.1; omega)
    obtain ⟨⟨y1, y2, y3, y4⟩, ⟨y5, y6, y7, y8⟩, y9, y10, y11, y12⟩ := hG.c12
    have HG := Lib.hid hG
    have HB9 := Lib.hid hB9
    have HT6 := Lib.hid hT6
    have HO6 := Lib.hid ho6
    have HR6 := Lib.hid hR6
    have HW6 := Lib.hid hw6
    clear hG hB9 hT6 ho5 ho6 hD6 hR6 hw6 hg6
    go_wp2_with fail
    have e2 : IntKind.i64.wrap ((I : Int) + 1) = (I : Int) + 1 := IntWalk.i64_in _ (by omega)
    have HDL : Hid (Calls Tryd.prog 65 #[.slice (if S = I then some ⟨h, 0, none⟩ else some ⟨h, I, none⟩) (S - I) (S - I), .int .i64 ((I : Int) + 1), .int .i64 ((S : Int) + 1)] w6.drew fun e w' => e = .returned (.tuple #[]) ∧ Own w1.heap.size w' (.slice (some ⟨h, 0, none⟩) S S) (dlF (dlF (List.replicate S 0) 0 1 0 I) I ((I : Int) + 1) ((S : Int) + 1) (S - I)) ∧ w6.drew.grownBy w' (some h)) :=
      dr_delay_if w1.heap.size h I S _ ((I : Int) + 1) ((S : Int) + 1) w6.drew (HO6.out.grow (Below.drew (Below.refl _ _))) (by rw [dlF_length]; simp) hIS (by omega) (by unfold I64; omega)
    go_still_tail 8, (by kernel_rfl)
    change wpList _ _ _ _ _ w6.drew
    have hdl := HDL.out
    clear HDL
    generalize (if S = I then some (⟨h, 0, none⟩ : Addr) else some ⟨h, I, none⟩) = B2 at hdl ⊢
    have HDL := Lib.hid hdl
    clear hdl
    go_wp2_with fail
    refine HDL.out.mono ?_
    rintro e w7 ⟨rfl, ho7, hg7⟩
    have hsz7 := hg7.size
    have hG := (HG.out.drew).grown hg7 (fun e => hne (by injection e))
    have hB9 := (HB9.out.drew).grown hg7 (fun e => by injection e with e; omega)
    have hT7 := (HT6.out.grow (Below.drew (Below.refl _ _))).grown hg7 (fun a e hc => by have := HA4.out a e; injection hc with hc; have := hO2.2; omega)
    have hR7 := (HR6.out.drew).grown hg7 (fun e => by injection e with e; have := hO2.1; omega)
    have hw7 : Below w.heap.size w w7 := grown_to (HW6.out.drew) hg7 (by have := hO2.1; omega)
    obtain ⟨⟨x1, x2, x3, x4⟩, ⟨x5, x6, x7, x8⟩, x9, x10, x11, x12⟩ := hG.c12
    obtain ⟨⟨z1, z2, z3, z4⟩, ⟨z5, z6, z7, z8⟩, z9, z10, z11, z12⟩ := hR7.c12
    have hf7 := hR7.2.2
    have hl7 := hR7.1
    go_wp2_with fail
    have hR8 := hR7.fill12 (.int .i64 d0) (.int .i64 d1) (.int .i64 d2) (.int .i64 d3) (.int .i64 c0) (.int .i64 c1) (.int .i64 c2) (.int .i64 c3) (.int .i64 S) (.slice (some ⟨w4.heap.size, 0, none⟩) 1 1) (.slice (some ⟨h, 0, none⟩) S S) (.int .i64 ((S : Int) + 1))
    have hg8 := fill12_grown w7 (w.heap.size + 1 + 1) (.int .i64 d0) (.int .i64 d1) (.int .i64 d2) (.int .i64 d3) (.int .i64 c0) (.int .i64 c1) (.int .i64 c2) (.int .i64 c3) (.int .i64 S) (.slice (some ⟨w4.heap.size, 0, none⟩) 1 1) (.slice (some ⟨h, 0, none⟩) S S) (.int .i64 ((S : Int) + 1))
    unfold fill12 at hR8 hg8
    clear x1 x2 x3 x4 x5 x6 x7 x8 x9 x10 x11 x12 z1 z2 z3 z4 z5 z6 z7 z8 z9 z10 z11 z12 hf7
    generalize ((((((((((((w7.setCell ⟨w.heap.size + 1 + 1, 0, none⟩ (.int .i64 d0)).setCell ⟨w.heap.size + 1 + 1, 1, none⟩ (.int .i64 d1)).setCell ⟨w.heap.size + 1 + 1, 2, none⟩ (.int .i64 d2)).setCell ⟨w.heap.size + 1 + 1, 3, none⟩ (.int .i64 d3)).setCell ⟨w.heap.size + 1 + 1, 4, none⟩ (.int .i64 c0)).setCell ⟨w.heap.size + 1 + 1, 5, none⟩ (.int .i64 c1)).setCell ⟨w.heap.size + 1 + 1, 6, none⟩ (.int .i64 c2)).setCell ⟨w.heap.size + 1 + 1, 7, none⟩ (.int .i64 c3)).setCell ⟨w.heap.size + 1 + 1, 8, none⟩ (.int .i64 (S : Int))).setCell ⟨w.heap.size + 1 + 1, 9, none⟩ (.slice (some ⟨w4.heap.size, 0, none⟩) 1 1)).setCell ⟨w.heap.size + 1 + 1, 10, none⟩ (.slice (some ⟨h, 0, none⟩) S S)).setCell ⟨w.heap.size + 1 + 1, 11, none⟩ (.int .i64 ((S : Int) + 1))) = W8 at hR8 hg8 ⊢
    obtain ⟨⟨z1, z2, z3, z4⟩, ⟨z5, z6, z7, z8⟩, z9, z10, z11, z12⟩ := hR8.c12
    refine bodyPost_ret (v := .tuple #[netV d0 d1 d2 d3 c0 c1 c2 c3 (S : Int) (some ⟨w4.heap.size, 0, none⟩) 1 1 (some ⟨h, 0, none⟩) S S ((S : Int) + 1), .int .i64 0]) (by simp [results, Tryd.results28, go_sem, z1, z2, z3, z4, z5, z6, z7, z8, z9, z10, z11, z12]) rfl ?_
    have hSN : I + K = S := by have := HSE.out; omega
    have hK : S - I = K := by omega
    have eNx : oneNx I K = dlF (dlF (List.replicate S 0) 0 1 0 I) I ((I : Int) + 1) ((S : Int) + 1) (S - I) := by unfold oneNx; rw [hSN, hK, HSE.out]
    have lNx : (oneNx I K).length = S := by rw [eNx, dlF_length, dlF_length, List.length_replicate]
    have eNs : oneNs b a I K = [[r2, r3].flatten] := by unfold oneNs; rw [HR2.out, HR3.out]; simp
    refine ⟨some ⟨w4.heap.size, 0, none⟩, 1, some ⟨h, 0, none⟩, S, ?_, ?_, ?_, ?_⟩
    · rw [HSE.out, lNx]; rfl
    · rw [eNs]
      exact nodes_one (hB9.grown hg8 (fun e => by injection e with e; omega)) (hT7.grown hg8 (fun a e hc => by have := HA4.out a e; injection hc with hc; omega)) L4.out
    · rw [eNx]
      obtain ⟨_, _, e, _, hi⟩ := (ho7.kept_at hg8 (by omega)).form
      injection e with e
      rw [e]; exact hi
    · exact grown_to hw7 hg8 (by omega)
end Go.Proofs.YtdiflpbioohddaaDoor
end
