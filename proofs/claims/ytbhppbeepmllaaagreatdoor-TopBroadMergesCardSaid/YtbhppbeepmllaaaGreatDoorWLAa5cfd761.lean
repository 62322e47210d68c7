import Derived.Test.YtbhppbeepmllaaaGreatDoorMd532c772
import Derived.Test.YtbhppbeepmllaaaGreatDoorWFA1c15784a
import Derived.Test.YtbhppbeepmllaaaGreatDoorRows
import Derived.Test.YtbhppbeepmllaaaGreatDoorCards
import Derived.Test.YtbhppbeepmllaaaGreatDoorTie
import Derived.ProofKit
import Derived.OpenShut
import Derived.LaidMore
import Derived.Lay
import Derived.LaidSub
import Derived.SevenTiedAt
import Derived.Stop.Joined
import Derived.Carry
import Derived.Deep.Slices
set_option linter.unusedVariables false
set_option linter.unusedSimpArgs false
set_option maxRecDepth 100000
set_option maxHeartbeats 2000000
namespace Go.Proofs.YtbhppbeepmllaaaGreatDoor
open Go.ChangeShapes Go.WideShapes Go.ChangeAt Go.RowKit

theorem own : ownKnob Tryz.prog.godebug = none := by kernel_rfl
section
variable {H : Type} {enc : TypeId × Value → H} {W : World} {base : Nat} {sp : Nat → Bool} {held : Bool}
theorem list_pick {α : Type} (Q : Nat → α → Prop) : ∀ n, (∀ i, i < n → ∃ a, Q i a) → ∃ l : List α, l.length = n ∧ ∀ i a, l[i]? = some a → Q i a
  | 0, _ => ⟨[], rfl, fun i a h => by simp at h⟩
  | n + 1, h => by
    obtain ⟨l, hl, hq⟩ := list_pick Q n (fun i hi => h i (by omega))
    obtain ⟨a, ha⟩ := h n (by omega)
    refine ⟨l ++ [a], by simp [hl], fun i b hb => ?_⟩
    by_cases hi : i < n
    · rw [List.getElem?_append_left (by omega)] at hb
      exact hq i b hb
    · by_cases e : i = n
      · subst e
        rw [List.getElem?_append_right (by omega), hl] at hb
        simp at hb
        exact hb ▸ ha
      · rw [List.getElem?_eq_none (by simp; omega)] at hb
        cases hb
theorem int_at {L : List Value} {o n T : Nat} {k : IntKind} {x : DataW H × List MemPlace} (hT : Tryz.prog.underlying T = some (.int k)) (h : DataW.trod enc Tryz.prog W base sp held n T ((L.drop o).take 1) = some x) : ∃ z, L[o]? = some (.int k z) ∧ (Lit.int k z).wf = true := by
  obtain ⟨z, e, _, hw⟩ := DataW.trod_int hT h
  refine ⟨z, ?_, hw⟩
  have h0 : ((L.drop o).take 1)[0]? = some (.int k z) := by rw [e]; rfl
  simpa using h0
theorem len5 {α : Type} {L : List α} (h : L.length = 5) : ∃ a b c d e, L = [a, b, c, d, e] := by
  match L, h with
  | [a, b, c, d, e], _ => exact ⟨a, b, c, d, e, rfl⟩
theorem cfg_open {b0 : Nat} {v : Value} {d : DataW H} {p : List MemPlace} (hval : Value.okWide Tryz.prog W .any b0 24 v) (h : DataW.Trod enc Tryz.prog W base sp held 24 v d p) :
    ∃ (b r wd m : Int) (s : Nat), v = .agg #[.int .i64 b, .int .i64 r, .int .i64 wd, .int .i64 m, .int .u64 (s : Int)] ∧ s < 18446744073709551616 := by
  obtain ⟨cs, rfl, hsz⟩ := okWide_struct Tryz.underlying24 hval
  obtain ⟨fuel, hf⟩ := h
  obtain ⟨xs, n, rfl, hx, hl, hxs, hel⟩ := DataW.trod_struct Tryz.underlying24 hf
  have c24 : Tryz.prog.cellsOf 24 = 5 := by kernel_rfl
  have c3 : Tryz.prog.cellsOf 3 = 1 := by kernel_rfl
  have c22 : Tryz.prog.cellsOf 22 = 1 := by kernel_rfl
  rw [c24] at hl
  obtain ⟨x0, x1, x2, x3, x4, rfl⟩ := len5 (show xs.length = 5 from hxs)
  have g0 : DataW.trod enc Tryz.prog W base sp held n 3 (((Value.agg cs).cells.toList.drop 0).take (Tryz.prog.cellsOf 3)) = some x0 := hel 0 _ rfl
  have g1 : DataW.trod enc Tryz.prog W base sp held n 3 (((Value.agg cs).cells.toList.drop 1).take (Tryz.prog.cellsOf 3)) = some x1 := hel 1 _ rfl
  have g2 : DataW.trod enc Tryz.prog W base sp held n 3 (((Value.agg cs).cells.toList.drop 2).take (Tryz.prog.cellsOf 3)) = some x2 := hel 2 _ rfl
  have g3 : DataW.trod enc Tryz.prog W base sp held n 3 (((Value.agg cs).cells.toList.drop 3).take (Tryz.prog.cellsOf 3)) = some x3 := hel 3 _ rfl
  have g4 : DataW.trod enc Tryz.prog W base sp held n 22 (((Value.agg cs).cells.toList.drop 4).take (Tryz.prog.cellsOf 22)) = some x4 := hel 4 _ rfl
  rw [c3] at g0 g1 g2 g3
  rw [c22] at g4
  obtain ⟨z0, f0, w0⟩ := int_at Tryz.underlying3 g0
  obtain ⟨z1, f1, w1⟩ := int_at Tryz.underlying3 g1
  obtain ⟨z2, f2, w2⟩ := int_at Tryz.underlying3 g2
  obtain ⟨z3, f3, w3⟩ := int_at Tryz.underlying3 g3
  obtain ⟨z4, f4, w4⟩ := int_at Tryz.underlying22 g4
  have b4 := bounds_u64 w4
  obtain ⟨y0, y1, y2, y3, y4, hL⟩ := len5 hl
  rw [hL] at f0 f1 f2 f3 f4
  simp at f0 f1 f2 f3 f4
  refine ⟨z0, z1, z2, z3, z4.toNat, ?_, by omega⟩
  subst f0; subst f1; subst f2; subst f3; subst f4
  rw [Int.toNat_of_nonneg b4.1]
  congr 1
  exact Array.ext' hL
theorem ops_open {b0 : Nat} {v : Value} {d : DataW H} {p : List MemPlace} (hval : Value.okWide Tryz.prog W .any b0 25 v) (h : DataW.Trod enc Tryz.prog W base sp held 25 v d p) :
    ∃ l : List Opr, l.length ≤ 9223372036854775807 ∧ OpsAt W W.heap.size v l := by
  obtain ⟨a0, len0, cap0, rfl⟩ := okWide_slice Tryz.underlying25 hval
  obtain ⟨fuel, hf⟩ := h
  rcases Deep.open_slice Tryz.underlying25 hf with ⟨hcs, hx⟩ | ⟨a, len, cap, m, n, D, Pl, hcs, hba, hl, hm, hmm, hx, hel⟩
  · simp [Value.cells] at hcs
    obtain ⟨rfl, rfl, rfl⟩ := hcs
    exact ⟨[], by simp, none, 0, rfl, fun i p hi => by simp at hi⟩
  · simp [Value.cells] at hcs
    obtain ⟨rfl, rfl, rfl⟩ := hcs
    have hlm : len0 ≤ m := by rw [hmm]; split <;> omega
    have c84 : Tryz.prog.cellsOf 84 = 5 := by kernel_rfl
    have c3 : Tryz.prog.cellsOf 3 = 1 := by kernel_rfl
    have c2 : Tryz.prog.cellsOf 2 = 1 := by kernel_rfl
    have c22 : Tryz.prog.cellsOf 22 = 1 := by kernel_rfl
    have key : ∀ i, i < len0 → ∃ p : Opr, p.Ok ∧ W.cell? (a.add (i * 5)) = some (.int .i64 p.kind) ∧ W.cell? ((a.add (i * 5)).add 1) = some (.int .i64 p.H) ∧ W.cell? ((a.add (i * 5)).add 2) = some (.int .i64 p.O) ∧ W.cell? ((a.add (i * 5)).add 3) = some (.int .u64 (p.key : Int)) ∧ W.cell? ((a.add (i * 5)).add 4) = some (.int .i64 p.D) := by
      intro i hi
      obtain ⟨cs', hc, ht⟩ := hel i (by omega)
      rw [c84] at hc
      obtain ⟨xs, n', rfl, hx', hl', hxs, hel'⟩ := DataW.trod_struct Tryz.underlying84 ht
      rw [c84] at hl'
      obtain ⟨x0, x1, x2, x3, x4, rfl⟩ := len5 (show xs.length = 5 from hxs)
      have g0 : DataW.trod enc Tryz.prog W base sp held n' 3 ((cs'.drop 0).take (Tryz.prog.cellsOf 3)) = some x0 := hel' 0 _ rfl
      have g1 : DataW.trod enc Tryz.prog W base sp held n' 3 ((cs'.drop 1).take (Tryz.prog.cellsOf 3)) = some x1 := hel' 1 _ rfl
      have g2 : DataW.trod enc Tryz.prog W base sp held n' 3 ((cs'.drop 2).take (Tryz.prog.cellsOf 3)) = some x2 := hel' 2 _ rfl
      have g3 : DataW.trod enc Tryz.prog W base sp held n' 22 ((cs'.drop 3).take (Tryz.prog.cellsOf 22)) = some x3 := hel' 3 _ rfl
      have g4 : DataW.trod enc Tryz.prog W base sp held n' 2 ((cs'.drop 4).take (Tryz.prog.cellsOf 2)) = some x4 := hel' 4 _ rfl
      rw [c3] at g0 g1 g2
      rw [c22] at g3
      rw [c2] at g4
      obtain ⟨z0, f0, w0⟩ := int_at Tryz.underlying3 g0
      obtain ⟨z1, f1, w1⟩ := int_at Tryz.underlying3 g1
      obtain ⟨z2, f2, w2⟩ := int_at Tryz.underlying3 g2
      obtain ⟨z3, f3, w3⟩ := int_at Tryz.underlying22 g3
      obtain ⟨z4, f4, w4⟩ := int_at Tryz.underlying2 g4
      have b3 := bounds_u64 w3
      have b4 := bounds_i64 w4
      have hat := World.cells?_some hc
      have hcell : ∀ j (hj : j < 5), W.cell? ((a.add (i * 5)).add j) = cs'[j]? := hat.2.2
      refine ⟨⟨z0, z1, z2, z3.toNat, z4⟩, ⟨by show z3.toNat < _; omega, b4.1, b4.2⟩, ?_, ?_, ?_, ?_, ?_⟩
      · have := hcell 0 (by omega)
        rw [f0] at this
        simpa [Addr.add] using this
      · rw [hcell 1 (by omega)]; exact f1
      · rw [hcell 2 (by omega)]; exact f2
      · rw [hcell 3 (by omega), Int.toNat_of_nonneg b3.1]; exact f3
      · rw [hcell 4 (by omega)]; exact f4
    by_cases hz : len0 = 0
    · subst hz
      exact ⟨[], by simp, some a, cap0, rfl, fun i p hi => by simp at hi⟩
    obtain ⟨b, off, spot⟩ := a
    have hspot : spot = none := by
      obtain ⟨p0, _, e0, _⟩ := key 0 (by omega)
      simpa [Addr.add] using World.cell?_spot e0
    subst hspot
    obtain ⟨l, hll, hlq⟩ := list_pick _ len0 key
    subst hll
    refine ⟨l, by have : maxLen ≤ 9223372036854775807 := by decide
                  omega, some ⟨b, off, none⟩, cap0, rfl, fun i p hi => ?_⟩
    obtain ⟨hp, e0, e1, e2, e3, e4⟩ := hlq i p hi
    simp only [add_plain] at e0 e1 e2 e3 e4
    have hb : b < W.heap.size := by
      have h0 := e0
      simp only [World.cell?] at h0
      cases hh : W.heap[b]? with
      | none => simp [hh] at h0
      | some o => exact (Array.getElem?_eq_some_iff.1 hh).1
    exact ⟨hp, b, off, rfl, hb, e0, e1, e2, e3, e4⟩
end
theorem tab_laid {laid : List (String × DataW Unit)} {W : World} (hl : laid.filter (fun x => x.1 == "internal/strconv.uint64pow10") = [("internal/strconv.uint64pow10", Lib.tabData .u64 Lib.pow10Tab)]) (h : laidMetH Tryz.prog laid W) : Tab W := by
  have h1 := laidMetH.filter (fun x => x.1 == "internal/strconv.uint64pow10") h
  rw [hl, MakeChecks.laidMetH_plain _ _ _ (by kernel_rfl)] at h1
  obtain ⟨g, hg, _⟩ := tabBlock
  exact Lib.tabIs_of_head (g := 4) (t := 317) (e := 22) (n := 20) (by kernel_rfl) (by kernel_rfl) (by kernel_rfl) (by kernel_rfl) (by kernel_rfl) (by kernel_rfl) h1
end Go.Proofs.YtbhppbeepmllaaaGreatDoor
