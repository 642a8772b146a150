/- A scheduled program of a network, run block by block from a state of zeros. Plain. -/
import Derived.Test.YtdiflpbioohddaaDoortS42toCq
import Derived.Test.YtdiflpbioohddaaDoortS31toH1
set_option linter.unusedVariables false
set_option linter.unusedSimpArgs false
namespace Go.Proofs.YtdiflpbioohddaaDoor
open Go.RowKit
theorem blk_mac {d : PrgD} {m : Mac} (hv : validB d = true) (hm : MacOk d m) (h0 : m.cyc = 0 ∧ m.stl = 0) {xs : List Int} (hx : wordD d xs = true) (hl : xs.length ≤ 100) : macB d (runM d m xs) = true := by
 have hcl := (valid_parts hv).2.2.1
 have hb := runM_time d xs m
 obtain ⟨a, b⟩ := time_in (l := d.code) hcl.2
 have hst : 0 ≤ stlF d.code := (stlF_pos (valid_fine hv)).1
 have h1 := mul_in (a := (xs.length : Int)) (b := cycF d.code) (A := 100) (B := 2048) (by omega) (by omega) a.1 a.2
 have h2 := mul_in (a := (xs.length : Int)) (b := stlF d.code) (A := 100) (B := 2048) (by omega) (by omega) hst (by omega)
 refine macB_mk hv (runM_ok hv _ _ hx hm) ?_ ?_
 ·rw [hb.1, h0.1]; omega
 ·rw [hb.2, h0.2]; omega
theorem word_sub {d : PrgD} {l m : List Int} (h : wordD d l = true) (hs : ∀ x ∈ m, x ∈ l) : wordD d m = true := by
 unfold wordD wordsB at h ⊢
 exact List.all_eq_true.2 fun x hx => List.all_eq_true.1 h x (hs x hx)
structure BlkF (n : NetD) (lx : List Int) : Prop where
 state : n.state (List.replicate n.nx.length 0) = true
 valid : validB (schD n.prg) = true
 macs : ∀ p, macB (schD n.prg) (runM (schD n.prg) (embM (List.replicate n.nx.length 0)) (lx.take p)) = true
 word : wordD (schD n.prg) lx = true
 outs : runO (schD n.prg) (embM (List.replicate n.nx.length 0)) lx = (runD n (List.replicate n.nx.length 0)).outS lx lx.length
 emb : embE n (List.replicate n.nx.length 0) = 0
theorem blk_facts {n : NetD} {lx : List Int} (hok : n.ok = true) (hv : validB n.prg = true) (hx : n.fit lx = true) (hl : lx.length ≤ 100) : BlkF n lx := by
 obtain ⟨-, -, ⟨p2, p3⟩, p4, p5, -⟩ := netB_parts hok
 have h0 := mac0_ok hv
 have hz : ∀ v ∈ (mac0 n.prg).mem, fitsW n.d0 n.d1 n.d2 n.d3 v = true := fun v hv => List.all_eq_true.1 h0.mw v hv
 have hf0 : fitsW n.d0 n.d1 n.d2 n.d3 0 = true := hz 0 (by show (0 : Int) ∈ List.replicate 128 0; simp)
 have hst : n.state (List.replicate n.nx.length 0) = true := state_iff.2 ⟨by rw [List.length_replicate]; omega, fun v hv => by rw [List.eq_of_mem_replicate hv]; exact hf0⟩
 have hc := cmp_facts hok hv hst hx hl
 have hsv : validB (schD n.prg) = true := tr_valid hv (tr_best n.prg.code)
 have hmo : MacOk (schD n.prg) (embM (List.replicate n.nx.length 0)) := by
  have h := (macB_parts hc.mac).2.1
  exact ⟨h.rl, h.ml, h.hl, h.rw, h.mw, h.hw⟩
 refine ⟨hst, hsv, fun p => blk_mac hsv hmo ⟨rfl, rfl⟩ (word_sub (l := lx) hc.word fun x hx => List.mem_of_mem_take hx) (by rw [List.length_take]; omega), hc.word, ?_, hc.emb⟩
 rw [fast_run hv]
 exact hc.outs
theorem blk_step (d : PrgD) (m : Mac) (lx : List Int) (p j : Nat) : runO d m (lx.take (p + j)) = runO d m (lx.take p) ++ runO d (runM d m (lx.take p)) ((lx.drop p).take j) ∧ runM d m (lx.take (p + j)) = runM d (runM d m (lx.take p)) ((lx.drop p).take j) := by
 have e : lx.take (p + j) = lx.take p ++ (lx.drop p).take j := by rw [List.take_add]
 rw [e]
 exact ⟨runO_append _ _ _ _, runM_append _ _ _ _⟩
end Go.Proofs.YtdiflpbioohddaaDoor
