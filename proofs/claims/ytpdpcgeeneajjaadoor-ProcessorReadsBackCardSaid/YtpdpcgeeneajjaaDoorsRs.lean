/- Texts and bytes read back; a text with a bad line (plain). -/
import Derived.Test.YtpdpcgeeneajjaaDoorsL3toRq
import Derived.Test.YtpdpcgeeneajjaaDoorsRutoE13
set_option linter.unusedVariables false
set_option linter.unusedSimpArgs false
namespace Go.Proofs.YtpdpcgeeneajjaaDoor
open Go.RowKit
def endl (L : List (List UInt8)) : List UInt8 := L.flatMap fun l => l ++ [10]
theorem spl_endl : ∀ (L : List (List UInt8)), (∀ l ∈ L, ∀ b ∈ l, b ≠ 10) → splF 10 (endl L) = L ++ [[]]
  | [], _ => rfl
  | l :: L, h => by
    have e : endl (l :: L) = l ++ 10 :: endl L := by unfold endl; simp
    rw [e, splF_part (h l (List.mem_cons_self ..)), spl_endl L fun x hx => h x (List.mem_cons_of_mem _ hx)]
    rfl
theorem no10_line (i : Ins) : ∀ b ∈ lineB i, b ≠ 10 := fun b hb e => by
  subst e
  have hp : ∀ k v, (10 : UInt8) ∈ partB k v → False := fun k v h => by
    unfold partB at h
    split at h
    · simp at h
    · rcases List.mem_append.1 h with h | h
      · rcases List.mem_append.1 h with h | h
        · simp at h
        · unfold letB at h
          split at h
          · simp at h
          · split at h
            · simp at h
            · split at h <;> simp at h
      · rcases itoa_mem h with h | h
        · exact absurd h (by decide)
        · exact absurd h.1 (by decide)
  unfold lineB at hb
  rcases List.mem_append.1 hb with hb | hb
  · rcases List.mem_append.1 hb with hb | hb
    · rcases List.mem_append.1 hb with hb | hb
      · have : ∀ k, (10 : UInt8) ∉ (opStr k).data.toList := fun k => by unfold opStr; split <;> decide
        exact this _ hb
      · exact hp _ _ hb
    · exact hp _ _ hb
  · exact hp _ _ hb
theorem fmtL_endl (l : List Ins) : fmtL l = endl (l.map lineB) := by
  unfold fmtL endl
  rw [List.flatMap_map]
theorem linesF_good : ∀ {l : List Ins}, (∀ i ∈ l, i.formed = true) → ∀ r, linesF (l.map lineB ++ r) = (l ++ (linesF r).1, l.length + (linesF r).2)
  | [], _, r => by simp
  | i :: l, h, r => by
    rw [List.map_cons, List.cons_append, linesF_cons (instr_line (h i (List.mem_cons_self ..))), linesF_good (fun x hx => h x (List.mem_cons_of_mem _ hx)) r]
    refine Prod.ext rfl ?_
    show l.length + (linesF r).2 + 1 = (i :: l).length + (linesF r).2
    rw [List.length_cons]; omega
theorem dropLast_snoc {α : Type} (L : List α) (x : α) : (L ++ [x]).dropLast = L := by simp
theorem getLast_snoc {α : Type} (L : List α) (x d : α) : (L ++ [x]).getLastD d = x := by
  rw [List.getLastD_eq_getLast?]; simp
theorem parse_fmt {l : List Ins} (h : ∀ i ∈ l, i.formed = true) (hl : l.length ≤ 512) : parseF (fmtL l) = (l, 0, 0) := by
  have hs : splF 10 (fmtL l) = l.map lineB ++ [[]] := by
    rw [fmtL_endl, spl_endl]
    intro x hx
    obtain ⟨i, -, rfl⟩ := List.mem_map.1 hx
    exact no10_line i
  have hg := linesF_good h []
  rw [List.append_nil] at hg
  have h0 : linesF [] = ([], 0) := rfl
  rw [h0] at hg
  simp only [List.append_nil, Nat.add_zero] at hg
  unfold parseF
  rw [hs, dropLast_snoc, getLast_snoc]
  unfold parseL
  rw [hg, List.length_map, if_neg (by rintro (h | ⟨h, -⟩); · omega
                                      · exact h rfl), if_neg (by omega), if_neg (by simp)]
def wordU (w : List UInt8) : Prop := ∀ b ∈ w, 65 ≤ b.toNat ∧ b.toNat ≤ 90
theorem word_bad {w : List UInt8} (h : wordU w) : instrF w = none := by
  have hs : splF 32 w = [w] := splF_plain fun b hb e => by
    have := h b hb
    rw [e] at this
    exact absurd this.1 (by decide)
  have ho : opOf w = none := by
    cases e : opOf w with
    | none => rfl
    | some k =>
      obtain ⟨hk, he⟩ := opOf_some e
      exfalso
      have hx : ∃ b, b ∈ (opStr k).data.toList ∧ 97 ≤ b.toNat := by
        unfold opStr
        split <;> exact ⟨_, List.mem_cons_self .., by decide⟩
      obtain ⟨b, hb, hb2⟩ := hx
      rw [he] at hb
      have := h b hb
      omega
  unfold instrF
  rw [hs]
  simp only [List.headD_cons, ho]
theorem parse_bad {l : List Ins} (h : ∀ i ∈ l, i.formed = true) (hl : l.length ≤ 500) {w : List UInt8} (hw : wordU w) {k : Nat} (hk : k ≤ l.length) : parseF (endl ((l.take k).map lineB ++ w :: (l.drop k).map lineB)) = ([], (k : Int) + 1, 21) := by
  have hs : splF 10 (endl ((l.take k).map lineB ++ w :: (l.drop k).map lineB)) = ((l.take k).map lineB ++ w :: (l.drop k).map lineB) ++ [[]] := by
    rw [spl_endl]
    intro x hx
    rcases List.mem_append.1 hx with hx | hx
    · obtain ⟨i, -, rfl⟩ := List.mem_map.1 hx
      exact no10_line i
    · rcases List.mem_cons.1 hx with rfl | hx
      · intro b hb e
        have := hw b hb
        rw [e] at this
        exact absurd this.1 (by decide)
      · obtain ⟨i, -, rfl⟩ := List.mem_map.1 hx
        exact no10_line i
  have hg := linesF_good (l := l.take k) (fun i hi => h i (List.mem_of_mem_take hi)) (w :: (l.drop k).map lineB)
  have h0 : linesF (w :: (l.drop k).map lineB) = ([], 0) := by
    exact linesF_stop (word_bad hw) _
  rw [h0, List.length_take, Nat.min_eq_left hk] at hg
  have hlen : ((l.take k).map lineB ++ w :: (l.drop k).map lineB).length = l.length + 1 := by simp; omega
  unfold parseF
  rw [hs, dropLast_snoc, getLast_snoc]
  unfold parseL
  rw [hg, hlen, if_neg (by rintro (h | ⟨h, -⟩); · omega
                           · exact h rfl), if_pos (by omega)]
  simp
def wordI (u : Int) : Int := if 2147483648 ≤ u then u - 4294967296 else u
def eightI (b0 b1 b2 b4 b5 b6 b7 : Int) : Ins := ⟨b0, b1, b2, wordI (b4 + b5 * 256 + b6 * 65536 + b7 * 16777216)⟩
def decL : List Int → Option (List Ins)
  | b0 :: b1 :: b2 :: b3 :: b4 :: b5 :: b6 :: b7 :: r => if b3 = 0 ∧ (eightI b0 b1 b2 b4 b5 b6 b7).formed = true then (decL r).map (eightI b0 b1 b2 b4 b5 b6 b7 :: ·) else none
  | _ => some []
def decE (l : List Int) : Int := if 4096 < l.length then 5 else if l.length % 8 ≠ 0 then 21 else match decL l with
  | none => 21
  | some _ => 0
def decI (l : List Int) : List Ins := if decE l = 0 then (decL l).getD [] else []
theorem dec_bytes : ∀ {l : List Ins}, (∀ i ∈ l, i.formed = true) → decL (l.flatMap Ins.bytes) = some l
  | [], _ => rfl
  | i :: l, h => by
    obtain ⟨⟨o0, o1⟩, ⟨a0, a1⟩, ⟨b0, b1⟩, m0, m1⟩ := formed_parts (h i (List.mem_cons_self ..))
    have hi := h i (List.mem_cons_self ..)
    have ih := dec_bytes fun x hx => h x (List.mem_cons_of_mem _ hx)
    rw [List.flatMap_cons]
    have he : eightI (i.op % 256) (i.a % 256) (i.b % 256) (i.imm % 4294967296 % 256) (i.imm % 4294967296 / 256 % 256) (i.imm % 4294967296 / 65536 % 256) (i.imm % 4294967296 / 16777216 % 256) = i := by
      unfold eightI
      have e1 : i.op % 256 = i.op := by omega
      have e2 : i.a % 256 = i.a := by omega
      have e3 : i.b % 256 = i.b := by omega
      have e4 : i.imm % 4294967296 % 256 + i.imm % 4294967296 / 256 % 256 * 256 + i.imm % 4294967296 / 65536 % 256 * 65536 + i.imm % 4294967296 / 16777216 % 256 * 16777216 = i.imm % 4294967296 := by omega
      have e5 : wordI (i.imm % 4294967296) = i.imm := by unfold wordI; split <;> omega
      rw [e1, e2, e3, e4, e5]
    show decL (i.op % 256 :: i.a % 256 :: i.b % 256 :: 0 :: i.imm % 4294967296 % 256 :: i.imm % 4294967296 / 256 % 256 :: i.imm % 4294967296 / 65536 % 256 :: i.imm % 4294967296 / 16777216 % 256 :: l.flatMap Ins.bytes) = _
    unfold decL
    rw [he, if_pos ⟨rfl, hi⟩, ih]
    rfl
theorem dec_enc {l : List Ins} (h : ∀ i ∈ l, i.formed = true) (hl : l.length ≤ 512) : decE (l.flatMap Ins.bytes) = 0 ∧ decI (l.flatMap Ins.bytes) = l := by
  have h1 := dec_bytes h
  have h2 := bytes_len l
  have he : decE (l.flatMap Ins.bytes) = 0 := by
    unfold decE
    rw [h1, h2, if_neg (by omega), if_neg (by omega)]
  refine ⟨he, ?_⟩
  unfold decI
  rw [if_pos he, h1]
  rfl
end Go.Proofs.YtpdpcgeeneajjaaDoor
