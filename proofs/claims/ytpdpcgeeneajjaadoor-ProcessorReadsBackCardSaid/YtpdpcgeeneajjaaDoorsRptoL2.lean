/- Several texts in one: Rp Bu L2. -/
import Derived.Test.YtpdpcgeeneajjaaDoorsE3toL1
import Derived.Lib.SplitLaws
import Derived.Lib.AtoiTie
import Derived.Lib.Strings
import Derived.Test.YtpdpcgeeneajjaaDoorSh
import Derived.Lib.AppendIntMem
import Derived.Lib.SmallJoins
set_option linter.unusedVariables false
set_option linter.unusedSimpArgs false
section
namespace Go.Proofs.YtpdpcgeeneajjaaDoor
open Go.RowKit
def splF (c : UInt8) : List UInt8 → List (List UInt8)
  | [] => [[]]
  | b :: l => if b = c then [] :: splF c l else (b :: (splF c l).headD []) :: (splF c l).tail
theorem splF_ne (c : UInt8) : ∀ l, splF c l ≠ []
  | [] => by simp [splF]
  | b :: l => by unfold splF; split <;> simp
theorem splF_eta (c : UInt8) (l : List UInt8) : (splF c l).headD [] :: (splF c l).tail = splF c l := by
  have := splF_ne c l
  cases h : splF c l with
  | nil => exact absurd h this
  | cons a t => rfl
theorem splF_hit (c : UInt8) (l : List UInt8) : splF c (c :: l) = [] :: splF c l := by
  show (if c = c then _ else _) = _
  rw [if_pos rfl]
theorem splF_miss {c b : UInt8} (h : b ≠ c) (l : List UInt8) : splF c (b :: l) = (b :: (splF c l).headD []) :: (splF c l).tail := by
  conv => lhs; unfold splF
  rw [if_neg h]
theorem splF_pre {c : UInt8} : ∀ {p : List UInt8}, (∀ b ∈ p, b ≠ c) → ∀ l, splF c (p ++ l) = (p ++ (splF c l).headD []) :: (splF c l).tail
  | [], _, l => by rw [List.nil_append, List.nil_append, splF_eta]
  | b :: p, h, l => by
    rw [List.cons_append, splF_miss (h b (List.mem_cons_self ..)), splF_pre (fun x hx => h x (List.mem_cons_of_mem _ hx)) l]
    rfl
theorem splF_plain {c : UInt8} {p : List UInt8} (h : ∀ b ∈ p, b ≠ c) : splF c p = [p] := by
  have := splF_pre h []
  rw [List.append_nil] at this
  rw [this]
  show (p ++ []) :: [] = [p]
  rw [List.append_nil]
theorem splF_part {c : UInt8} {p : List UInt8} (h : ∀ b ∈ p, b ≠ c) (l : List UInt8) : splF c (p ++ c :: l) = p :: splF c l := by
  rw [splF_pre h, splF_hit]
  show (p ++ []) :: _ = _
  rw [List.append_nil]; rfl
theorem splF_length (c : UInt8) : ∀ l, (splF c l).length = l.count c + 1
  | [] => rfl
  | b :: l => by
    by_cases h : b = c
    · subst h
      rw [splF_hit, List.length_cons, splF_length b l, List.count_cons_self]
    · have h1 := splF_length c l
      rw [splF_miss h, List.length_cons, List.length_tail, h1, List.count_cons_of_ne h]
      omega
theorem idx_one (c : UInt8) : ∀ l : List UInt8, (Lib.index l [c] = -1 ∧ c ∉ l) ∨ ∃ i : Nat, Lib.index l [c] = i ∧ i < l.length
  | [] => .inl ⟨by simp [Lib.index], by simp⟩
  | b :: l => by
    unfold Lib.index
    by_cases h : b = c
    · subst h
      exact .inr ⟨0, by simp [List.isPrefixOf], by simp⟩
    · have hp : ([c].isPrefixOf (b :: l)) = false := by simp [List.isPrefixOf]; exact fun e => h e.symm
      rw [hp]
      rcases idx_one c l with ⟨h1, h2⟩ | ⟨i, h1, h2⟩
      · exact .inl ⟨by simp [h1], by simp [h2]; exact fun e => h e.symm⟩
      · refine .inr ⟨i + 1, ?_, by simp; omega⟩
        rw [h1]
        have : ¬ ((i : Int) == -1) = true := fun e => by have := beq_iff_eq.1 e; omega
        rw [if_neg (by decide), if_neg this]; omega
theorem splK_miss {c : UInt8} {l : List UInt8} (h : Lib.index l [c] = -1) : ∀ k, Lib.splitK [c] 0 k l = [l]
  | 0 => rfl
  | k + 1 => by unfold Lib.splitK; rw [if_pos (beq_iff_eq.2 h)]
theorem splK_hit {c : UInt8} {l : List UInt8} {i : Nat} (h : Lib.index l [c] = i) (k : Nat) : Lib.splitK [c] 0 (k + 1) l = l.take i :: Lib.splitK [c] 0 k (l.drop (i + 1)) := by
  conv => lhs; unfold Lib.splitK
  have hm : ¬ (Lib.index l [c] == -1) = true := fun e => by have := beq_iff_eq.1 e; omega
  rw [if_neg hm, h]
  rfl
theorem splK_eq (c : UInt8) : ∀ (l : List UInt8) (k : Nat), l.count c ≤ k → Lib.splitK [c] 0 k l = splF c l
  | [], k, _ => by rw [splK_miss (by simp [Lib.index]) k]; rfl
  | b :: l, k, hk => by
    by_cases h : b = c
    · subst h
      rw [List.count_cons_self] at hk
      obtain ⟨k', rfl⟩ : ∃ k', k = k' + 1 := ⟨k - 1, by omega⟩
      rw [splK_hit (i := 0) (by unfold Lib.index; simp [List.isPrefixOf]), splF_hit, List.take_zero]
      show [] :: Lib.splitK [b] 0 k' l = _
      rw [splK_eq b l k' (by omega)]
    · rw [List.count_cons_of_ne h] at hk
      have hp : ([c].isPrefixOf (b :: l)) = false := by simp [List.isPrefixOf]; exact fun e => h e.symm
      rw [splF_miss h, ← splK_eq c l k hk]
      rcases idx_one c l with ⟨h1, -⟩ | ⟨i, h1, h2⟩
      · rw [splK_miss h1, splK_miss (by unfold Lib.index; rw [hp, h1]; rfl)]
        rfl
      · have hb : Lib.index (b :: l) [c] = ((i + 1 : Nat) : Int) := by
          unfold Lib.index
          rw [hp, h1]
          have : ¬ ((i : Int) == -1) = true := fun e => by have := beq_iff_eq.1 e; omega
          rw [if_neg (by decide), if_neg this]; omega
        cases k with
        | zero =>
          exfalso
          have hc : c ∈ l := by
            have h3 := splF_length c l
            rcases idx_one c l with ⟨h4, -⟩ | ⟨j, h4, -⟩
            · omega
            · by_cases hcl : c ∈ l
              · exact hcl
              · have := idx_none hcl
                omega
          have := List.count_pos_iff.2 hc
          omega
        | succ k =>
          rw [splK_hit hb, splK_hit h1]
          rfl
where
  idx_none {c : UInt8} : ∀ {l : List UInt8}, c ∉ l → Lib.index l [c] = -1
    | [], _ => by simp [Lib.index]
    | b :: l, h => by
      unfold Lib.index
      have hp : ([c].isPrefixOf (b :: l)) = false := by simp [List.isPrefixOf]; intro e; exact h (by rw [e]; simp)
      rw [hp, idx_none (fun hc => h (List.mem_cons_of_mem _ hc))]
      rfl
theorem spl_lib (c : UInt8) (s : ByteArray) (k : Nat) (hk : s.data.toList.count c ≤ k) : Lib.splitB (str [c]) 0 k s = (splF c s.data.toList).map str := by
  have h := Lib.splitB_data (str [c]) 0 k s
  have e : (str [c]).data.toList = [c] := rfl
  rw [e, splK_eq c _ k hk] at h
  rw [← h, List.map_map]
  have : ∀ l : List ByteArray, l = l.map (str ∘ fun x => x.data.toList) := fun l => by
    conv => lhs; rw [← List.map_id l]
    exact List.map_congr_left fun x _ => str_eq rfl
  exact this _
theorem decFrom_snoc : ∀ (l : List UInt8) (acc n d : Nat) (b : UInt8), Lib.decFrom acc l = some n → Lib.digitVal b = some d → Lib.decFrom acc (l ++ [b]) = some (n * 10 + d)
  | [], acc, n, d, b, h, hd => by
    simp only [Lib.decFrom, Option.some.injEq] at h
    subst h
    simp [Lib.decFrom, hd]
  | a :: l, acc, n, d, b, h, hd => by
    simp only [List.cons_append, Lib.decFrom] at h ⊢
    cases ha : Lib.digitVal a with
    | none => rw [ha] at h; cases h
    | some e => rw [ha] at h; exact decFrom_snoc l _ n d b h hd
theorem dig_byte {d : Nat} (h : d < 10) : (UInt8.ofNat (48 + d)).toNat = 48 + d := by
  have : (UInt8.ofNat (48 + d)).toNat = (48 + d) % 256 := by simp
  omega
theorem dig_val {d : Nat} (h : d < 10) : Lib.digitVal (UInt8.ofNat (48 + d)) = some d := by
  unfold Lib.digitVal
  rw [dig_byte h, if_pos (by omega)]
  congr 1
  omega
theorem dec_digits (u : Nat) : Lib.decFrom 0 (Lib.decDigits u) = some u := by
  induction u using Nat.strongRecOn with
  | _ u ih =>
    by_cases h : u < 10
    · rw [Lib.decDigits_one h]
      have := decFrom_snoc [] 0 0 u _ rfl (dig_val h)
      simpa using this
    · rw [Lib.decDigits, dif_neg h]
      have := decFrom_snoc _ 0 _ (u % 10) _ (ih (u / 10) (by omega)) (dig_val (by omega))
      rw [this]
      congr 1
      omega
theorem digits_mem {u : Nat} {b : UInt8} (h : b ∈ Lib.decDigits u) : 48 ≤ b.toNat ∧ b.toNat ≤ 57 := by
  obtain ⟨k, hk⟩ := List.mem_iff_getElem?.1 h
  obtain ⟨d, hd⟩ := Lib.digit_of_decFrom _ 0 u (dec_digits u) k b hk
  unfold Lib.digitVal at hd
  split at hd
  · assumption
  · cases hd
theorem digits_ne (u : Nat) : Lib.decDigits u ≠ [] := fun e => by
  have := Lib.decDigits_length u
  rw [e] at this
  have := Lib.nDigits_pos u
  simp at *
  omega
def numF (s : List UInt8) : Option Int :=
  let neg := decide (1 < s.length) && (s.head? == some 45)
  let t := if neg then s.drop 1 else s
  if t.length < 1 ∨ 8 < t.length then none else (Lib.decFrom 0 t).map fun (m : Nat) => if neg then -(m : Int) else m
def numV (s : List UInt8) : Int := (numF s).getD 0
theorem itoa_mem {v : Int} {b : UInt8} (h : b ∈ Lib.itoa v) : b.toNat = 45 ∨ (48 ≤ b.toNat ∧ b.toNat ≤ 57) := by
  unfold Lib.itoa at h
  split at h
  · rcases List.mem_cons.1 h with rfl | h
    · exact .inl rfl
    · exact .inr (digits_mem h)
  · exact .inr (digits_mem h)
theorem nDigits_pow : ∀ (k u : Nat), u < 10 ^ (k + 1) → Lib.nDigits u ≤ k + 1
  | 0, u, h => by rw [Lib.nDigits_small (by omega)]; omega
  | k + 1, u, h => by
    by_cases hu : u < 10
    · rw [Lib.nDigits_small hu]; omega
    · rw [Lib.nDigits_big hu]
      have := nDigits_pow k (u / 10) (by rw [Nat.pow_succ] at h; omega)
      omega
theorem nDigits_le {u : Nat} (h : u < 100000000) : Lib.nDigits u ≤ 8 := nDigits_pow 7 u (Nat.lt_of_lt_of_le h (by decide))
theorem num_itoa {v : Int} (h0 : -100000000 < v) (h1 : v < 100000000) : numF (Lib.itoa v) = some v := by
  by_cases hv : v < 0
  · obtain ⟨u, rfl⟩ : ∃ u : Nat, v = -(u : Int) := ⟨v.natAbs, by omega⟩
    rw [Lib.itoa_neg u (by omega)]
    have hl := Lib.decDigits_length u
    have h8 := nDigits_le (u := u) (by omega)
    have hp := Lib.nDigits_pos u
    unfold numF
    have hn : (decide (1 < (45 :: Lib.decDigits u).length) && ((45 :: Lib.decDigits u).head? == some 45)) = true := by
      rw [List.length_cons, hl, decide_eq_true (by omega)]
      rfl
    simp only [hn, if_true]
    rw [List.drop_succ_cons, List.drop_zero, if_neg (by omega), dec_digits]
    rfl
  · obtain ⟨u, rfl⟩ : ∃ u : Nat, v = (u : Int) := ⟨v.toNat, by omega⟩
    rw [Lib.itoa_nonneg]
    have hl := Lib.decDigits_length u
    have h8 := nDigits_le (u := u) (by omega)
    have hp := Lib.nDigits_pos u
    unfold numF
    have hn : (decide (1 < (Lib.decDigits u).length) && ((Lib.decDigits u).head? == some 45)) = false := by
      cases e : Lib.decDigits u with
      | nil => rfl
      | cons b l =>
        have hb := digits_mem (u := u) (b := b) (by rw [e]; simp)
        have : ((b :: l).head? == some 45) = false := by
          show (some b == some 45) = false
          have : b ≠ 45 := fun e => by rw [e] at hb; exact absurd hb.1 (by decide)
          simpa using this
        rw [this, Bool.and_false]
    simp only [hn, Bool.false_eq_true, if_false]
    rw [if_neg (by omega), dec_digits]
    rfl
theorem atoi_itoa {v : Int} (h0 : -100000000 < v) (h1 : v < 100000000) : Lib.atoiAll (Lib.itoa v) = .ok v := by
  have hlen : (Lib.itoa v).length ≤ 18 := by
    unfold Lib.itoa
    split
    · have := nDigits_le (u := v.natAbs) (by omega)
      rw [List.length_cons, Lib.decDigits_length]; omega
    · have := nDigits_le (u := v.toNat) (by omega)
      rw [Lib.decDigits_length]; omega
  rw [Lib.atoiAll_short _ hlen]
  have hd : ∀ u : Nat, Lib.decNat (Lib.decDigits u) = some u := fun u => by
    unfold Lib.decNat
    have := digits_ne u
    cases e : Lib.decDigits u with
    | nil => exact absurd e this
    | cons b l => rw [← e, dec_digits]; simp [e]
  have : Lib.atoi (Lib.itoa v) = some v := by
    by_cases hv : v < 0
    · obtain ⟨u, rfl⟩ : ∃ u : Nat, v = -(u : Int) := ⟨v.natAbs, by omega⟩
      rw [Lib.itoa_neg u (by omega)]
      show (if ((45 : UInt8) == 45) = true then (Lib.decNat (Lib.decDigits u)).map (fun (m : Nat) => -(m : Int)) else if ((45 : UInt8) == 43) = true then (Lib.decNat (Lib.decDigits u)).map (fun (m : Nat) => (m : Int)) else (Lib.decNat (45 :: Lib.decDigits u)).map (fun (m : Nat) => (m : Int))) = _
      rw [if_pos (by decide), hd]
      rfl
    · obtain ⟨u, rfl⟩ : ∃ u : Nat, v = (u : Int) := ⟨v.toNat, by omega⟩
      rw [Lib.itoa_nonneg]
      have h2 := hd u
      cases e : Lib.decDigits u with
      | nil => exact absurd e (digits_ne u)
      | cons b l =>
        have hb := digits_mem (u := u) (b := b) (by rw [e]; simp)
        rw [e] at h2
        show (if (b == 45) = true then (Lib.decNat l).map (fun (m : Nat) => -(m : Int)) else if (b == 43) = true then (Lib.decNat l).map (fun (m : Nat) => (m : Int)) else (Lib.decNat (b :: l)).map (fun (m : Nat) => (m : Int))) = _
        have n1 : (b == 45) = false := by
          have : b ≠ 45 := fun e => by rw [e] at hb; exact absurd hb.1 (by decide)
          simpa using this
        have n2 : (b == 43) = false := by
          have : b ≠ 43 := fun e => by rw [e] at hb; exact absurd hb.1 (by decide)
          simpa using this
        rw [n1, n2, if_neg (by decide), if_neg (by decide), h2]
        rfl
  rw [this]
  rfl
end Go.Proofs.YtpdpcgeeneajjaaDoor
end
section
namespace Go.Proofs.YtpdpcgeeneajjaaDoor
open Go.RowKit
abbrev IsBu (B b : Nat) (bs : List Value) (w : World) : Prop := Lib.IsBuilder 74 5 B b bs w
theorem bu_size : (Tryd.prog.info? 74).map (·.size) = some 2 := by kernel_rfl
theorem bu_lies : liesAt Tryd.prog Tryd.prog.depth 74 (2 / Tryd.prog.cellsOf 74) 0 74 1 = true := by kernel_rfl
set_option maxHeartbeats 1000000 in
set_option maxRecDepth 100000 in
theorem bu_check_used (b : Nat) (w : World) (h0 : w.cell? ⟨b, 0, none⟩ = some (.pointer (some ⟨b, 0, none⟩))) :
    Calls Tryd.prog 55 #[.pointer (some ⟨b, 0, none⟩)] w fun e w' => e = .returned (.tuple #[]) ∧ w' = w := by
  obtain ⟨j, hj, _⟩ := Option.map_eq_some_iff.1 bu_size
  go_enter Tryd.func55, Tryd.ntmps55
  go_wp2
  rw [Lib.run_neq_ptr_same w _ Tryd.underlying72 hj]
  go_wp2
  go_end0
  exact ⟨rfl, rfl⟩
set_option maxHeartbeats 1000000 in
set_option maxRecDepth 100000 in
theorem bu_check_fresh (b : Nat) (w : World) (h0 : w.cell? ⟨b, 0, none⟩ = some (.pointer none)) (hsh : w.shape? b = some (74, 2)) (hfz : w.frozen? ⟨b, 0, none⟩ = false) :
    Calls Tryd.prog 55 #[.pointer (some ⟨b, 0, none⟩)] w fun e w' => e = .returned (.tuple #[]) ∧ w' = w.setCell ⟨b, 0, none⟩ (.pointer (some ⟨b, 0, none⟩)) := by
  obtain ⟨j, hj, hjs⟩ := Option.map_eq_some_iff.1 bu_size
  go_enter Tryd.func55, Tryd.ntmps55
  go_wp2
  rw [Lib.run_to_unsafe w ⟨b, 0, none⟩ Tryd.underlying72 Tryd.underlying111 hj (by rw [hjs]; decide) hsh (Nat.zero_lt_succ 1)]
  simp only [Result.andThen]
  rw [Oper.upon_value]
  go_wp2
  rw [run_callFunc_extern Tryd.func65 (by kernel_rfl) (by kernel_rfl) (by kernel_rfl) (e := Extern.AbiNoEscape.same) (by kernel_rfl)]
  rw [Lib.run_noEscape]
  simp only [Result.andThen]
  rw [Oper.upon_value]
  go_wp2
  rw [Lib.run_from_unsafe w ⟨b, 0, none⟩ Tryd.underlying111 Tryd.underlying72 hj hsh bu_lies]
  simp only [Result.andThen]
  rw [Oper.upon_value]
  go_wp2
  go_end0
  exact ⟨rfl, rfl⟩
theorem bu_check (B b : Nat) (bs : List Value) (w : World) (h : IsBu B b bs w) :
    Calls Tryd.prog 55 #[.pointer (some ⟨b, 0, none⟩)] w fun e w' => e = .returned (.tuple #[]) ∧ (Lib.BuilderAt 74 5 B b (.pointer (some ⟨b, 0, none⟩)) bs w' ∧ Below B w w') := by
  rcases h with h | h
  · refine (bu_check_fresh b w h.cell0 h.shape h.frozen0).mono ?_
    rintro e w' ⟨rfl, rfl⟩
    exact ⟨rfl, h.used _, (Below.refl B w).setCell (p := ⟨b, 0, none⟩) h.1 _⟩
  · refine (bu_check_used b w h.cell0).mono ?_
    rintro e w' ⟨rfl, rfl⟩
    exact ⟨rfl, h, Below.refl B _⟩
set_option maxHeartbeats 2000000 in
set_option maxRecDepth 100000 in
theorem bu_byte (B b : Nat) (bs : List Value) (c : Int) (w : World) (h : IsBu B b bs w) (hlen : bs.length + 1 ≤ 140737488355328) (hBw : B ≤ w.heap.size) :
    Calls Tryd.prog 34 #[.pointer (some ⟨b, 0, none⟩), .int .u8 c] w fun e w' => e = .returned .nilIface ∧ IsBu B b (bs ++ [.int .u8 c]) w' ∧ Below B w w' := by
  obtain ⟨i0, hi, hz0, hz1, hz2⟩ := info_parts info_byte
  have CC := Lib.hid (bu_check B b bs w h)
  go_enter Tryd.func34, Tryd.ntmps34
  go_upto_region 2 with (go_at_call 55; refine CC.out.mono ?_; rintro e w1 ⟨rfl, h1, hb1⟩)
  obtain ⟨hB, v, hbk, hown, hne⟩ := h1
  have c0 : w1.cell? ⟨b, 0, none⟩ = some (.pointer (some ⟨b, 0, none⟩)) := by rw [Lib.cell_of_heap hbk]; rfl
  have c1 : w1.cell? ⟨b, 1, none⟩ = some v := by rw [Lib.cell_of_heap hbk]; rfl
  go_wp2_with (at_builtin; refine wpList_append_own _ rfl _ _ 22 rfl B 5 i0 (.int .u8 0) 1 1 Tryd.underlying22 hi hz0 hz1 hz2 rfl (by decide) _ _ _ rfl (hown.alloc _) ⟨w1.heap.size, 0, none⟩ 1 1 [.int .u8 c] rfl rfl ?c1 ?c2 ?c3 ?c4 ?c5 ?_)
  case c1 =>
    intro j u hj
    match j, hj with
    | 0, hj => simp at hj; subst hj; simp [Addr.add]
  case c2 => intro u hu; simp at hu; subst hu; rfl
  case c3 => unfold maxLen; omega
  case c4 => omega
  case c5 => have := hb1.size; simp; omega
  intro v' w2 hown' hgrow _
  have hlt : b < w1.heap.size := by
    rcases Nat.lt_or_ge b w1.heap.size with h' | h'
    · exact h'
    · simp [Array.getElem?_eq_none h'] at hbk
  have hb2 : w2.heap[b]? = some (.cells #[.pointer (some ⟨b, 0, none⟩), v] 74 (0, 0)) := by
    rw [hgrow.block b (by simp; omega) (fun e => hne e.symm), Lib.alloc_old w1 _ b hlt]
    exact hbk
  have d0 : w2.cell? ⟨b, 0, none⟩ = some (.pointer (some ⟨b, 0, none⟩)) := by rw [Lib.cell_of_heap hb2]; rfl
  have d1 : w2.cell? ⟨b, 1, none⟩ = some v := by rw [Lib.cell_of_heap hb2]; rfl
  have f1 : w2.frozen? ⟨b, 1, none⟩ = false := Lib.frozen_of_heap hb2 1
  obtain ⟨g, cap, rfl⟩ : ∃ g cap, v' = .slice (some ⟨g, 0, none⟩) (bs.length + 1) cap := by
    rcases hown'.2 with ⟨_, h0⟩ | ⟨g, cap, cur, hv, _⟩
    · omega
    · exact ⟨g, cap, hv⟩
  go_wp2
  go_ret
  refine ⟨rfl, .inr ?_, ?_⟩
  · exact Lib.BuilderAt.put (T := 74) (e := 5) hB hb2 (bs' := bs ++ [.int .u8 c]) (by simpa using hown') (by decide)
  · exact ((hb1.alloc (by have := hb1.size; omega) _).grown hgrow (by have := hb1.size; simp; omega) (fun k hk => (hown.lt k hk).1)).setCell (p := ⟨b, 1, none⟩) hB _
set_option maxHeartbeats 2000000 in
set_option maxRecDepth 100000 in
theorem bu_str (B b : Nat) (bs : List Value) (s : ByteArray) (w : World) (h : IsBu B b bs w) (hlen : bs.length + s.size ≤ 140737488355328) (hBw : B ≤ w.heap.size) :
    Calls Tryd.prog 32 #[.pointer (some ⟨b, 0, none⟩), .string s] w fun e w' => e = .returned (.tuple #[.int .i64 s.size, .nilIface]) ∧ IsBu B b (bs ++ Lib.strCells s) w' ∧ Below B w w' := by
  obtain ⟨i0, hi, hz0, hz1, hz2⟩ := info_parts info_byte
  have CC := Lib.hid (bu_check B b bs w h)
  go_enter Tryd.func32, Tryd.ntmps32
  go_upto_region 2 with (go_at_call 55; refine CC.out.mono ?_; rintro e w1 ⟨rfl, h1, hb1⟩)
  obtain ⟨hB, v, hbk, hown, hne⟩ := h1
  have c0 : w1.cell? ⟨b, 0, none⟩ = some (.pointer (some ⟨b, 0, none⟩)) := by rw [Lib.cell_of_heap hbk]; rfl
  have c1 : w1.cell? ⟨b, 1, none⟩ = some v := by rw [Lib.cell_of_heap hbk]; rfl
  go_wp2_with (at_builtin; refine Lib.wpList_append_own_string _ rfl _ _ 22 9 rfl B 5 i0 Tryd.underlying22 Tryd.underlying9 hi hz0 hz1 hz2 _ _ _ rfl hown s rfl ?c3 ?c4 ?c5 ?_)
  case c3 => unfold maxLen; omega
  case c4 => omega
  case c5 => have := hb1.size; omega
  intro v' w2 hown' hgrow _
  have hlt : b < w1.heap.size := by
    rcases Nat.lt_or_ge b w1.heap.size with h' | h'
    · exact h'
    · simp [Array.getElem?_eq_none h'] at hbk
  have hb2 : w2.heap[b]? = some (.cells #[.pointer (some ⟨b, 0, none⟩), v] 74 (0, 0)) := by
    rw [hgrow.block b hlt (fun e => hne e.symm)]
    exact hbk
  have d0 : w2.cell? ⟨b, 0, none⟩ = some (.pointer (some ⟨b, 0, none⟩)) := by rw [Lib.cell_of_heap hb2]; rfl
  have d1 : w2.cell? ⟨b, 1, none⟩ = some v := by rw [Lib.cell_of_heap hb2]; rfl
  have f1 : w2.frozen? ⟨b, 1, none⟩ = false := Lib.frozen_of_heap hb2 1
  obtain ⟨ao, n', cap, rfl⟩ : ∃ ao n' cap, v' = .slice ao n' cap := by
    rcases hown'.2 with ⟨hv, _⟩ | ⟨g, cap, cur, hv, _⟩
    · exact ⟨_, _, _, hv⟩
    · exact ⟨_, _, _, hv⟩
  go_wp2
  go_ret2
  refine ⟨rfl, .inr ?_, ?_⟩
  · exact Lib.BuilderAt.put (T := 74) (e := 5) hB hb2 (bs' := bs ++ Lib.strCells s) (by simpa [Lib.strCells_length] using hown') (by decide)
  · exact (hb1.grown hgrow (by have := hb1.size; omega) (fun k hk => (hown.lt k hk).1)).setCell (p := ⟨b, 1, none⟩) hB _
end Go.Proofs.YtpdpcgeeneajjaaDoor
end
section
namespace Go.Proofs.YtpdpcgeeneajjaaDoor
open Go.RowKit
theorem kA_le (k : Nat) : 0 ≤ kA k ∧ kA k ≤ 4 := by unfold kA; split <;> decide
theorem kB_le (k : Nat) : 0 ≤ kB k ∧ kB k ≤ 4 := by unfold kB; split <;> decide
theorem kC_or (k : Nat) : kC k = 5 ∨ kC k = 0 := by unfold kC; split <;> decide
theorem opStr_str (k : Nat) : opStr k = str (opStr k).data.toList := str_eq rfl
set_option maxRecDepth 100000 in
set_option maxHeartbeats 4000000 in
theorem r38_Line (i : Ins) (w : World) (hF : i.formed = true) : Calls Tryd.prog 17 #[i.v] w fun e w' => e = .returned (.string (str (lineB i))) ∧ Below w.heap.size w w' := by
  obtain ⟨⟨o0, o1⟩, ⟨a0, a1⟩, ⟨b0, b1⟩, m0, m1⟩ := formed_parts hF
  obtain ⟨op, a, b, imm⟩ := i
  simp only at o0 o1 a0 a1 b0 b1 m0 m1
  obtain ⟨k, rfl⟩ := Int.eq_ofNat_of_zero_le o0
  obtain ⟨C, hC⟩ : ∃ c, (kC k == 5) = c := ⟨_, rfl⟩
  have CF : Hid (∀ w1, Calls Tryd.prog 37 #[.int .i64 (k : Int)] w1 fun e w' => e = .returned (.tuple #[.string (opStr k), .int .i64 (kA k), .int .i64 (kB k), .bool C]) ∧ w1 = w') := Lib.hid fun w1 => by
    have h := r38_form (k : Int) w1
    unfold formR at h
    rw [if_pos ⟨o0, o1⟩, Int.toNat_natCast, hC] at h
    exact h
  have CA : Hid (∀ w1, Calls Tryd.prog 38 #[.int .i64 (kA k), .int .i64 a] w1 fun e w' => e = .returned (.string (str (partB (kA k) a))) ∧ Below w1.heap.size w1 w') := Lib.hid fun w1 => r38_part (kA k) a w1 (kA_le k) (by omega) (by omega)
  have CB : Hid (∀ w1, Calls Tryd.prog 38 #[.int .i64 (kB k), .int .i64 b] w1 fun e w' => e = .returned (.string (str (partB (kB k) b))) ∧ Below w1.heap.size w1 w') := Lib.hid fun w1 => r38_part (kB k) b w1 (kB_le k) (by omega) (by omega)
  have CD : Hid (∀ w1, Calls Tryd.prog 39 #[.int .i64 imm] w1 fun e w' => e = .returned (.string (str (Lib.itoa imm))) ∧ Below w1.heap.size w1 w') := Lib.hid fun w1 => r38_Decimal imm w1 (by omega) (by omega)
  have HT : Hid (lineB ⟨(k : Int), a, b, imm⟩ = (opStr k).data.toList ++ partB (kA k) a ++ partB (kB k) b ++ partB (kC k) imm) := Lib.hid rfl
  obtain ⟨so, hso⟩ : ∃ s, opStr k = s := ⟨_, rfl⟩
  obtain ⟨sa, hsa⟩ : ∃ s, str (partB (kA k) a) = s := ⟨_, rfl⟩
  obtain ⟨sb, hsb⟩ : ∃ s, str (partB (kB k) b) = s := ⟨_, rfl⟩
  obtain ⟨si, hsi⟩ : ∃ s, str (Lib.itoa imm) = s := ⟨_, rfl⟩
  obtain ⟨KA, hKA⟩ : ∃ c, kA k = c := ⟨_, rfl⟩
  obtain ⟨KB, hKB⟩ : ∃ c, kB k = c := ⟨_, rfl⟩
  have zo : so.size ≤ 100 := by rw [← hso, opStr_str, str_size]; have := opStr_len k; omega
  have za : sa.size ≤ 100 := by rw [← hsa, str_size]; have := partB_len (kA k) (v := a) ⟨by omega, by omega⟩; omega
  have zb : sb.size ≤ 100 := by rw [← hsb, str_size]; have := partB_len (kB k) (v := b) ⟨by omega, by omega⟩; omega
  have zi : si.size ≤ 100 := by rw [← hsi, str_size]; have := itoa_len (v := imm) ⟨by omega, by omega⟩; omega
  have H1 : Hid (so ++ sa ++ sb = str ((opStr k).data.toList ++ partB (kA k) a ++ partB (kB k) b)) := Lib.hid (by rw [← str_add, ← str_add, ← opStr_str, hso, hsa, hsb])
  have H2 : Hid (C = false → so ++ sa ++ sb = str (lineB ⟨(k : Int), a, b, imm⟩)) := Lib.hid fun hc => by
    have hk : kC k = 0 := by rcases kC_or k with h | h; · rw [h] at hC; rw [← hC] at hc; cases hc
                             · exact h
    rw [HT.out, H1.out, hk]
    unfold partB
    simp
  have H3 : Hid (C = true → so ++ sa ++ sb ++ str [32] ++ si = str (lineB ⟨(k : Int), a, b, imm⟩)) := Lib.hid fun hc => by
    have hk : kC k = 5 := by rw [← hC] at hc; simpa using hc
    rw [HT.out, H1.out, hk, ← hsi, str_add, str_add]
    congr 1
    conv => rhs; rhs; unfold partB
    rw [if_neg (by decide), List.append_assoc]
    congr 1
  generalize str (lineB ⟨(k : Int), a, b, imm⟩) = st at H2 H3 ⊢
  rw [hso, hKA, hKB] at CF
  rw [hsa, hKA] at CA
  rw [hsb, hKB] at CB
  rw [hsi] at CD
  clear HT H1 hso hsa hsb hsi hKA hKB hC hF
  cases C with
  | false =>
    go_enter Tryd.func17, Tryd.ntmps17
    go_upto_region 2 with (go_at_call 37; (with_reducible refine (CF.out _).mono ?_); rintro e1 w1 ⟨rfl, rfl⟩)
    have q1 : ∀ n : Ext (w.alloc (.cells #[.int .i64 (k : Int), .int .i64 a, .int .i64 b, .int .i64 imm] 50)), n.to.cell? ⟨w.heap.size, 1, none⟩ = some (.int .i64 a) := fun n => (n.cell _ (by simp)).trans (by simp)
    have q2 : ∀ n : Ext (w.alloc (.cells #[.int .i64 (k : Int), .int .i64 a, .int .i64 b, .int .i64 imm] 50)), n.to.cell? ⟨w.heap.size, 2, none⟩ = some (.int .i64 b) := fun n => (n.cell _ (by simp)).trans (by simp)
    refine wp_region_ext (by kernel_rfl) (by kernel_rfl) ?_
    repeat (go_big_quiet_step (first
      | (go_at_call 38; first
        | (with_reducible exact ext_below (CA.out _))
        | (with_reducible exact ext_below (CB.out _)))))
    refine wpQuiet_nil ?_
    rintro _ ⟨⟨w1, hb1⟩, rfl⟩
    go_wp2_with fail
    go_ret
    exact ⟨congrArg (fun x => Ending.returned (.string x)) (H2.out (by trivial)), below_then ((Below.refl _ _).alloc (Nat.le_refl _) _) hb1⟩
  | true =>
    go_enter Tryd.func17, Tryd.ntmps17
    go_upto_region 2 with (go_at_call 37; (with_reducible refine (CF.out _).mono ?_); rintro e1 w1 ⟨rfl, rfl⟩)
    have q1 : ∀ n : Ext (w.alloc (.cells #[.int .i64 (k : Int), .int .i64 a, .int .i64 b, .int .i64 imm] 50)), n.to.cell? ⟨w.heap.size, 1, none⟩ = some (.int .i64 a) := fun n => (n.cell _ (by simp)).trans (by simp)
    have q2 : ∀ n : Ext (w.alloc (.cells #[.int .i64 (k : Int), .int .i64 a, .int .i64 b, .int .i64 imm] 50)), n.to.cell? ⟨w.heap.size, 2, none⟩ = some (.int .i64 b) := fun n => (n.cell _ (by simp)).trans (by simp)
    have q3 : ∀ n : Ext (w.alloc (.cells #[.int .i64 (k : Int), .int .i64 a, .int .i64 b, .int .i64 imm] 50)), n.to.cell? ⟨w.heap.size, 3, none⟩ = some (.int .i64 imm) := fun n => (n.cell _ (by simp)).trans (by simp)
    refine wp_region_ext (by kernel_rfl) (by kernel_rfl) ?_
    repeat (go_big_quiet_step (first
      | (go_at_call 38; first
        | (with_reducible exact ext_below (CA.out _))
        | (with_reducible exact ext_below (CB.out _)))))
    refine wpQuiet_nil ?_
    rintro _ ⟨n, rfl⟩
    have q3' := q3 n
    have hb1 := n.below
    generalize n.to = w1 at q3' hb1 ⊢
    go_wp2_with (go_at_call 39; (with_reducible refine (CD.out _).mono ?_); rintro e2 w2 ⟨rfl, hb2⟩)
    go_ret
    exact ⟨congrArg (fun x => Ending.returned (.string x)) (H3.out (by trivial)), below_then (below_then ((Below.refl _ _).alloc (Nat.le_refl _) _) hb1) hb2⟩
theorem pr_letter (k : Int) (w : World) (hk : 0 ≤ k ∧ k ≤ 5) : Calls Tryd.prog 50 #[.int .i64 k] w fun e w' => e = .returned (.string (str (letB k))) ∧ w = w' := by
  obtain rfl | rfl | rfl | rfl | rfl | rfl : k = 0 ∨ k = 1 ∨ k = 2 ∨ k = 3 ∨ k = 4 ∨ k = 5 := by omega
  all_goals
    go_enter Tryd.func50, Tryd.ntmps50
    go_wp2
    go_ret
    exact ⟨rfl, rfl⟩
end Go.Proofs.YtpdpcgeeneajjaaDoor
end
