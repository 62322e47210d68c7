import Derived.Test.YtbhppbeepmllaaaGreatDoorWQM49239f15
set_option linter.unusedVariables false
set_option linter.unusedSimpArgs false
set_option maxRecDepth 100000
set_option maxHeartbeats 2000000
namespace Go.Proofs.YtbhppbeepmllaaaGreatDoor
open Go.RowKit

theorem lawmed_no (b r wd m0 : Int) (s : Nat) (a0 a1 a2 a3 : Int) (hr : ¬ rightP b r wd 1) (v : Value) (w : World) (ht : Tab w) :
  Calls Tryz.prog 8 #[.agg #[.int .i64 b, .int .i64 r, .int .i64 wd, .int .i64 m0, .int .u64 (s : Int)], v, .agg #[.int .u64 a0, .int .u64 a1, .int .u64 a2, .int .u64 a3]] w fun e w' => e = .returned (.bool true) ∧ Below w.heap.size w w' := by
 have kb : Below w.heap.size w ((w.alloc (.cells #[.int .i64 b, .int .i64 r, .int .i64 wd, .int .i64 m0, .int .u64 (s : Int)] 24)).alloc (.cells #[.int .u64 a0, .int .u64 a1, .int .u64 a2, .int .u64 a3] 88)) := ((Below.refl _ _).alloc (Nat.le_refl _) _).alloc (by simp) _
 have x0 : ((w.alloc (.cells #[.int .i64 b, .int .i64 r, .int .i64 wd, .int .i64 m0, .int .u64 (s : Int)] 24)).alloc (.cells #[.int .u64 a0, .int .u64 a1, .int .u64 a2, .int .u64 a3] 88)).heap[w.heap.size]? = some (Obj.cells #[.int .i64 b, .int .i64 r, .int .i64 wd, .int .i64 m0, .int .u64 (s : Int)] 24 (0, 0)) := heap_alloc_under _ (heap_alloc_at _ rfl)
 have htw := ht.below kb ht.lt
 obtain ⟨W, hW⟩ : ∃ W, ((w.alloc (.cells #[.int .i64 b, .int .i64 r, .int .i64 wd, .int .i64 m0, .int .u64 (s : Int)] 24)).alloc (.cells #[.int .u64 a0, .int .u64 a1, .int .u64 a2, .int .u64 a3] 88)) = W := ⟨_, rfl⟩
 rw [hW] at x0 kb htw
 have lx := lt_of_block x0
 have HWK := Lib.hid (works_any W htw)
 have HRT := Lib.hid fun w => (show Calls Tryz.prog 11 #[.agg #[.int .i64 b, .int .i64 r, .int .i64 wd, .int .i64 m0, .int .u64 (s : Int)]] w fun e w' => e = .returned (.bool false) ∧ Below w.heap.size w w' by
  have h := topright b r wd m0 s w
  rw [decide_eq_false hr] at h
  exact h)
 clear hr htw ht
 have HX := Lib.hid (And.intro x0 kb)
 clear x0 kb
 go_enter Tryz.func8, Tryz.ntmps8
 go_wp2_with fail
 clear hW
 refine HWK.out.mono ?_
 rintro e w1 ⟨rfl, hb1⟩
 have q0 := cell_of_heap ((hb1.block _ lx).trans HX.out.1) 0 _ rfl
 have q1 := cell_of_heap ((hb1.block _ lx).trans HX.out.1) 1 _ rfl
 have q2 := cell_of_heap ((hb1.block _ lx).trans HX.out.1) 2 _ rfl
 have q3 := cell_of_heap ((hb1.block _ lx).trans HX.out.1) 3 _ rfl
 have q4 := cell_of_heap ((hb1.block _ lx).trans HX.out.1) 4 _ rfl
 have HB := Lib.hid hb1
 clear hb1
 go_wp2_with fail
 refine (HRT.out _).mono ?_
 rintro e w2 ⟨rfl, hb2⟩
 have HB2 := Lib.hid hb2
 clear hb2
 go_wp2_with fail
 go_ret
 exact ⟨rfl, (HX.out.2.trans (HB.out.mono HX.out.2.size)).trans (HB2.out.mono (Nat.le_trans HX.out.2.size HB.out.size))⟩
theorem law_median {b r wd m0 : Int} {s : Nat} (hs : s < 18446744073709551616) (l : List Opr) (hll : l.length ≤ 9223372036854775807) (v : Value) (zs : List Int) (hz : zs.length = 4) (hw : ∀ z ∈ zs, (Lit.int .u64 z).wf = true) (w : World) (ht : Tab w) (hv : OpsAt w w.heap.size v l) :
  Calls Tryz.prog 8 #[.agg #[.int .i64 b, .int .i64 r, .int .i64 wd, .int .i64 m0, .int .u64 (s : Int)], v, .agg (zs.map fun z => Value.int .u64 z).toArray] w fun e w' => e = .returned (.bool true) ∧ Below w.heap.size w w' := by
 match zs, hz with
 | [a0, a1, a2, a3], _ =>
 have h0 := bounds_u64 (hw a0 (by simp))
 have h1 := bounds_u64 (hw a1 (by simp))
 have h2 := bounds_u64 (hw a2 (by simp))
 have h3 := bounds_u64 (hw a3 (by simp))
 show Calls Tryz.prog 8 #[.agg #[.int .i64 b, .int .i64 r, .int .i64 wd, .int .i64 m0, .int .u64 (s : Int)], v, .agg #[.int .u64 a0, .int .u64 a1, .int .u64 a2, .int .u64 a3]] w _
 by_cases hr : rightP b r wd 1
 ·obtain ⟨⟨b1, b2⟩, ⟨r1, r2⟩, ⟨w1, w2⟩, _⟩ := hr
  obtain ⟨bn, rfl⟩ : ∃ n : Nat, b = n := ⟨b.toNat, by omega⟩
  obtain ⟨rn, rfl⟩ : ∃ n : Nat, r = n := ⟨r.toNat, by omega⟩
  obtain ⟨wn, rfl⟩ : ∃ n : Nat, wd = n := ⟨wd.toNat, by omega⟩
  obtain ⟨n0, rfl⟩ : ∃ n : Nat, a0 = n := ⟨a0.toNat, by omega⟩
  obtain ⟨n1, rfl⟩ : ∃ n : Nat, a1 = n := ⟨a1.toNat, by omega⟩
  obtain ⟨n2, rfl⟩ : ∃ n : Nat, a2 = n := ⟨a2.toNat, by omega⟩
  obtain ⟨n3, rfl⟩ : ∃ n : Nat, a3 = n := ⟨a3.toNat, by omega⟩
  exact law_median_c ⟨bn, rn, wn, 3, s⟩ ⟨by show 1 ≤ bn; omega, by show bn ≤ 59; omega, by show 1 ≤ rn; omega, by show rn ≤ 8; omega, by show 1 ≤ wn; omega, by show wn ≤ 128; omega, by show 1 ≤ 3; omega, by show 3 ≤ 3; omega, hs⟩ m0 rfl n0 (by omega) n1 (by omega) n2 (by omega) n3 (by omega) v l hll w ht hv
 ·exact lawmed_no b r wd m0 s a0 a1 a2 a3 hr v w ht
end Go.Proofs.YtbhppbeepmllaaaGreatDoor
