import Derived.Test.YtbhppbeepmllaaaGreatDoorMe27845a3
import Derived.Test.YtbhppbeepmllaaaGreatDoorM53ffddcf
set_option linter.unusedVariables false
set_option linter.unusedSimpArgs false
namespace Go.Proofs.YtbhppbeepmllaaaGreatDoor
open Go.RowKit

theorem below_alloc {w w1 : World} {o : Obj} (hb : Below (w.alloc o).heap.size (w.alloc o) w1) : Below w.heap.size w w1 :=
  ((Below.refl _ _).alloc (Nat.le_refl _) _).trans (hb.mono (by simp))

theorem right_any (b r wd m s : Int) (w : World) (R : RC b r wd m s) :
    Calls Tryz.prog 92 #[.agg #[.int .i64 b, .int .i64 r, .int .i64 wd, .int .i64 m, .int .u64 s]] w fun e w' => e = .returned (.bool true) ∧ Below w.heap.size w w' := by
  obtain ⟨hb1, hb2, hr1, hr2, hw1, hw2, hm1, hm2, hs1, hs2⟩ := R
  go_enter Tryz.func92, Tryz.ntmps92
  go_wp2_with (go_at_call 134; go_in)
  refine wp_loop_rounds 5 ?_
  rw [rounds_succ]
  go_wp2
  rw [rounds_succ]
  go_wp2
  rw [rounds_succ]
  go_wp2
  rw [rounds_succ]
  go_wp2
  rw [rounds_succ]
  go_wp2
  go_ret
  refine ⟨rfl, ?_⟩
  repeat (first | exact Below.refl _ _ | refine Below.alloc ?_ (by simp <;> omega) _ | refine Below.drew ?_)

def keysV (b l : Int) : Int := 2 ^ (b - l).toNat
theorem keysV_pos (b l : Int) : 1 ≤ keysV b l := by
  unfold keysV
  have h : (1 : Int) ≤ ((2 ^ (b - l).toNat : Nat) : Int) := by exact_mod_cast Nat.one_le_two_pow
  simpa using h
theorem keysV_le (b l : Int) (h1 : b ≤ 59) (h2 : 0 ≤ l) : keysV b l ≤ 576460752303423488 := by
  unfold keysV
  have h : (2 : Nat) ^ (b - l).toNat ≤ 2 ^ 59 := Nat.pow_le_pow_right (by decide) (by omega)
  have h2 : ((2 ^ (b - l).toNat : Nat) : Int) ≤ ((2 ^ 59 : Nat) : Int) := by exact_mod_cast h
  simpa using h2

theorem keys_any (b r wd m s l : Int) (w : World) (R : RC b r wd m s) (hl : 0 ≤ l) (hl2 : l ≤ b) :
    Calls Tryz.prog 64 #[.agg #[.int .i64 b, .int .i64 r, .int .i64 wd, .int .i64 m, .int .u64 s], .int .i64 l] w fun e w' => e = .returned (.int .u64 (keysV b l)) ∧ Below w.heap.size w w' := by
  have hk1 := keysV_pos b l
  have hk2 := keysV_le b l R.b2 hl
  have hR := R
  obtain ⟨hb1, hb2, hr1, hr2, hw1, hw2, hm1, hm2, hs1, hs2⟩ := R
  have hv : keysV b l = 2 ^ (b - l).toNat := rfl
  have HV := Lib.hid hv; clear hv
  go_enter Tryz.func64, Tryz.ntmps64
  go_wp2_with fail
  refine (right_any b r wd m s _ hR).mono ?_
  rintro e w1 ⟨rfl, hb⟩
  obtain ⟨hc, hf⟩ := bcell hb
  have hsz := hb.size
  go_wp2
  go_ret
  exact ⟨ret_int (by rw [IntWalk.u64_in _ (by rw [← HV.out]; omega)]; exact HV.out.symm), below_alloc hb⟩

theorem exact_any (b r wd m s l : Int) (w : World) (R : RC b r wd m s) (hl : 0 ≤ l) (hl2 : l ≤ b) :
    Calls Tryz.prog 97 #[.agg #[.int .i64 b, .int .i64 r, .int .i64 wd, .int .i64 m, .int .u64 s], .int .i64 l] w fun e w' => e = .returned (.bool (decide (keysV b l ≤ wd))) ∧ Below w.heap.size w w' := by
  have hk1 := keysV_pos b l
  have hk2 := keysV_le b l R.b2 hl
  have hR := R
  obtain ⟨hb1, hb2, hr1, hr2, hw1, hw2, hm1, hm2, hs1, hs2⟩ := R
  go_enter Tryz.func97, Tryz.ntmps97
  go_wp2_with fail
  refine (keys_any b r wd m s l _ hR hl hl2).mono ?_
  rintro e w1 ⟨rfl, hb⟩
  obtain ⟨hc, hf⟩ := bcell hb
  have hsz := hb.size
  go_wp2
  go_ret
  exact ⟨rfl, below_alloc hb⟩

theorem col_ex (s l row key wd : Int) (h0 : 0 ≤ s) (h1 : s < 18446744073709551616) (h2 : 0 ≤ l) (h3 : l ≤ 59) (h4 : 0 ≤ row) (h5 : row ≤ 7) (h6 : 0 ≤ key) (h7 : key < 18446744073709551616) (h8 : 1 ≤ wd) (h9 : wd ≤ 128) :
    ∃ v : Int, (∀ (w : World) (b r m : Int) (c1 c2 c3 : Nat), w.cell? ⟨c1, 0, none⟩ = some (.int .i64 b) → w.cell? ⟨c1, 4, none⟩ = some (.int .u64 s) → w.cell? ⟨c1, 2, none⟩ = some (.int .i64 wd) →
      w.cell? ⟨c2, 0, none⟩ = some (.int .i64 l) → w.cell? ⟨c3, 0, none⟩ = some (.int .u64 key) → c1 < w.heap.size → c2 < w.heap.size → c3 < w.heap.size →
      Calls Tryz.prog 65 #[.int .i64 row, .pointer (some ⟨c1, 0, none⟩), .pointer (some ⟨c2, 0, none⟩), .pointer (some ⟨c3, 0, none⟩)] w fun e w' => e = .returned (.int .i64 v) ∧ Below w.heap.size w w') ∧ 0 ≤ v ∧ v < wd := by
  obtain ⟨pa, pb, hp, hpa, hpb⟩ := pair_ex s l row h0 h1 h2 h3 h4 h5
  have HP := Lib.hid hp; clear hp
  unfold U at hpa hpb
  obtain ⟨ln, hln, hU⟩ := line_ex pa pb key hpa.1 hpa.2 hpb.1 hpb.2 h6 h7
  have HL := Lib.hid hln; clear hln
  unfold U at hU
  apply Exists.intro; apply And.intro
  · intro w b r m c1 c2 c3 k0 k1 k2 k3 k4 z1 z2 z3
    go_enter Tryz.func65, Tryz.ntmps65
    go_wp2_with fail
    refine (HP.out _).mono ?_
    rintro e w1 ⟨rfl, hb⟩
    obtain ⟨hc, hf⟩ := bcell hb
    have hsz := hb.size
    go_wp2_with (go_at_call 67; go_in)
    refine (HL.out _).mono ?_
    rintro e w2 ⟨rfl, hb2⟩
    go_wp2
    go_ret
    exact ⟨rfl, hb.trans (hb2.mono hb.size)⟩
  · have x1 : 0 ≤ ln % wd := Int.emod_nonneg _ (by omega)
    have x2 : ln % wd < wd := Int.emod_lt_of_pos _ (by omega)
    rw [IntWalk.wrap64_in _ (by omega)]
    exact ⟨x1, x2⟩

noncomputable def colV (s l row key wd : Int) : Int := Classical.epsilon fun v : Int => (∀ (w : World) (b r m : Int) (c1 c2 c3 : Nat), w.cell? ⟨c1, 0, none⟩ = some (.int .i64 b) → w.cell? ⟨c1, 4, none⟩ = some (.int .u64 s) → w.cell? ⟨c1, 2, none⟩ = some (.int .i64 wd) →
      w.cell? ⟨c2, 0, none⟩ = some (.int .i64 l) → w.cell? ⟨c3, 0, none⟩ = some (.int .u64 key) → c1 < w.heap.size → c2 < w.heap.size → c3 < w.heap.size →
      Calls Tryz.prog 65 #[.int .i64 row, .pointer (some ⟨c1, 0, none⟩), .pointer (some ⟨c2, 0, none⟩), .pointer (some ⟨c3, 0, none⟩)] w fun e w' => e = .returned (.int .i64 v) ∧ Below w.heap.size w w') ∧ 0 ≤ v ∧ v < wd
theorem col_spec (s l row key wd : Int) (h0 : 0 ≤ s) (h1 : s < 18446744073709551616) (h2 : 0 ≤ l) (h3 : l ≤ 59) (h4 : 0 ≤ row) (h5 : row ≤ 7) (h6 : 0 ≤ key) (h7 : key < 18446744073709551616) (h8 : 1 ≤ wd) (h9 : wd ≤ 128) :
    (∀ (w : World) (b r m : Int) (c1 c2 c3 : Nat), w.cell? ⟨c1, 0, none⟩ = some (.int .i64 b) → w.cell? ⟨c1, 4, none⟩ = some (.int .u64 s) → w.cell? ⟨c1, 2, none⟩ = some (.int .i64 wd) →
      w.cell? ⟨c2, 0, none⟩ = some (.int .i64 l) → w.cell? ⟨c3, 0, none⟩ = some (.int .u64 key) → c1 < w.heap.size → c2 < w.heap.size → c3 < w.heap.size →
      Calls Tryz.prog 65 #[.int .i64 row, .pointer (some ⟨c1, 0, none⟩), .pointer (some ⟨c2, 0, none⟩), .pointer (some ⟨c3, 0, none⟩)] w fun e w' => e = .returned (.int .i64 (colV s l row key wd)) ∧ Below w.heap.size w w') ∧ 0 ≤ colV s l row key wd ∧ colV s l row key wd < wd :=
  Classical.epsilon_spec (p := fun v : Int => (∀ (w : World) (b r m : Int) (c1 c2 c3 : Nat), w.cell? ⟨c1, 0, none⟩ = some (.int .i64 b) → w.cell? ⟨c1, 4, none⟩ = some (.int .u64 s) → w.cell? ⟨c1, 2, none⟩ = some (.int .i64 wd) →
      w.cell? ⟨c2, 0, none⟩ = some (.int .i64 l) → w.cell? ⟨c3, 0, none⟩ = some (.int .u64 key) → c1 < w.heap.size → c2 < w.heap.size → c3 < w.heap.size →
      Calls Tryz.prog 65 #[.int .i64 row, .pointer (some ⟨c1, 0, none⟩), .pointer (some ⟨c2, 0, none⟩), .pointer (some ⟨c3, 0, none⟩)] w fun e w' => e = .returned (.int .i64 v) ∧ Below w.heap.size w w') ∧ 0 ≤ v ∧ v < wd) (col_ex s l row key wd h0 h1 h2 h3 h4 h5 h6 h7 h8 h9)
end Go.Proofs.YtbhppbeepmllaaaGreatDoor

set_option maxRecDepth 100000
namespace Go.Proofs.YtbhppbeepmllaaaGreatDoor
open Go.RowKit

theorem Tryz.info2 : (Tryz.prog.info? 2).map (fun i => (i.zero, i.size, i.bytes)) = some (some (.int .i64 0), 1, 8) := by kernel_rfl
theorem Tryz.info3 : (Tryz.prog.info? 3).map (fun i => (i.zero, i.size, i.bytes)) = some (some (.int .i64 0), 1, 8) := by kernel_rfl

noncomputable def colsV (r wd s l key : Int) : List Int := (List.range r.toNat).map fun row : Nat => colV s l row key wd


theorem below_of_grown {w w' : World} (h : w.grownBy w' none) : Below w.heap.size w w' := ⟨h.os, h.tape, h.output, h.size, fun k hk => h.block k hk (by simp)⟩
theorem grown_of_below {w w' : World} (h : Below w.heap.size w w') (row : Option Nat) : w.grownBy w' row := ⟨h.os, h.tape, h.output, h.size, fun k hk _ => h.block k hk⟩

noncomputable def colsUpto (n : Nat) (wd s l key : Int) (k : Nat) : List Value := (List.range k).map (fun row : Nat => Value.int .i64 (colV s l row key wd)) ++ List.replicate (n - k) (.int .i64 0)

theorem colsUpto_set (n : Nat) (wd s l key : Int) (k : Nat) (h : k < n) : (colsUpto n wd s l key k).set k (.int .i64 (colV s l k key wd)) = colsUpto n wd s l key (k + 1) := by
 unfold colsUpto
 rw [List.range_succ, List.map_append, List.append_assoc, List.set_append_right _ _ (by simp)]
 obtain ⟨d, hd⟩ : ∃ d, n - k = d + 1 := ⟨n - k - 1, by omega⟩
 have hd2 : n - (k + 1) = d := by omega
 simp [hd, hd2, List.replicate_succ]

theorem cols_any (b r wd m s l key : Int) (w : World) (R : RC b r wd m s) (hl : 0 ≤ l) (hl2 : l ≤ b) (hk : 0 ≤ key) (hk2 : key < keysV b l) :
  Calls Tryz.prog 21 #[.agg #[.int .i64 b, .int .i64 r, .int .i64 wd, .int .i64 m, .int .u64 s], .int .i64 l, .int .u64 key] w fun e w' =>
   (∃ v, e = .returned v ∧ w'.ownsRow w.heap.size 3 1 v r.toNat ((colsV r wd s l key).map (Value.int .i64))) ∧ Below w.heap.size w w' := by
 have hk3 := keysV_le b l R.b2 hl
 have hR := R
 obtain ⟨hb1, hb2, hr1, hr2, hw1, hw2, hm1, hm2, hs1, hs2⟩ := R
 obtain ⟨n, rfl⟩ := Int.eq_ofNat_of_zero_le (show 0 ≤ r by omega)
 rw [Int.toNat_natCast]
 go_enter Tryz.func21, Tryz.ntmps21
 go_wp2_with fail
 obtain ⟨W, hW⟩ : ∃ W, ((w.alloc (.cells #[.int .i64 b, .int .i64 (n : Int), .int .i64 wd, .int .i64 m, .int .u64 s] 24)).alloc (.cells #[.int .i64 l] 3)).alloc (.cells #[.int .u64 key] 22) = W := ⟨_, rfl⟩
 have e0 : W.cell? ⟨w.heap.size, 0, none⟩ = some (.int .i64 b) := by subst hW; go_simp
 have e1 : W.cell? ⟨w.heap.size, 1, none⟩ = some (.int .i64 (n : Int)) := by subst hW; go_simp
 have e2 : W.cell? ⟨w.heap.size, 2, none⟩ = some (.int .i64 wd) := by subst hW; go_simp
 have e3 : W.cell? ⟨w.heap.size, 3, none⟩ = some (.int .i64 m) := by subst hW; go_simp
 have e4 : W.cell? ⟨w.heap.size, 4, none⟩ = some (.int .u64 s) := by subst hW; go_simp
 have e5 : W.cell? ⟨w.heap.size + 1, 0, none⟩ = some (.int .i64 l) := by subst hW; go_simp
 have e6 : W.cell? ⟨w.heap.size + 1 + 1, 0, none⟩ = some (.int .u64 key) := by subst hW; go_simp
 have eS : W.heap.size = w.heap.size + 3 := by subst hW; go_simp
 have eB : Below w.heap.size w W := by subst hW; exact (((Below.refl _ _).alloc (Nat.le_refl _) _).alloc (by simp) _).alloc (by simp; omega) _
 rw [hW]
 clear hW
 have ES := Lib.hid eS
 have q0 := fun k : After W.heap.size W => k.cell (by omega) e0
 have q1 := fun k : After W.heap.size W => k.cell (by omega) e1
 have q2 := fun k : After W.heap.size W => k.cell (by omega) e2
 have q3 := fun k : After W.heap.size W => k.cell (by omega) e3
 have q4 := fun k : After W.heap.size W => k.cell (by omega) e4
 have q5 := fun k : After W.heap.size W => k.cell (by omega) e5
 have q6 := fun k : After W.heap.size W => k.cell (by omega) e6
 clear eS
 refine wp_region_after W.heap.size (by kernel_rfl) (by kernel_rfl) ?_
 repeat (go_big_quiet_step ((go_at_call 64; exact after_of (Nat.le_refl _) _ (keys_any b n wd m s l _ hR hl hl2))))
 refine wpQuiet_nil ?_
 intro k
 have p0 := q0 k
 have p1 := q1 k
 have p2 := q2 k
 have p4 := q4 k
 have p5 := q5 k
 have p6 := q6 k
 have kB := k.h
 have kS := k.h.size
 have eS := ES.out
 clear q0 q1 q2 q3 q4 q5 q6 e0 e1 e2 e3 e4 e5 e6
 obtain ⟨W1, hW1⟩ : ∃ W1, k.w = W1 := ⟨_, rfl⟩
 rw [hW1] at p0 p1 p2 p4 p5 p6 kB kS
 rw [hW1]
 clear hW1 k
 have kW := eB.trans (kB.mono (by omega))
 have kS2 : w.heap.size + 3 ≤ W1.heap.size := by omega
 clear eS kB kS ES eB
 obtain ⟨i0, hi, hz0, hz1, hz2⟩ := info_parts Tryz.info3
 go_wp2_with (at_make; refine wpList_make_full _ rfl (.tmp 17) (.tmp 17) 51 rfl w.heap.size 3 i0 (.int .i64 0) 1 Tryz.underlying51 hi hz0 hz1 .i64 .i64 n n n rfl rfl (by omega) (by omega) (by rw [hz2]; omega) (by unfold maxLen; omega) (by omega) ?_; intro w2 hown hgrow)
 simp only [Value.cells, Nat.mul_one, toList_madeCells_one] at hown
 have hB2 := below_of_grown hgrow
 clear hgrow
 go_loopw [21] (fun i wr => ∃ k : Nat, k ≤ n ∧ i = .int .i64 k ∧ wr.ownsRow w.heap.size 3 1 (.slice (some ⟨W1.heap.size, 0, none⟩) n n) n (colsUpto n wd s l key k) ∧ Below W1.heap.size W1 wr) (fun i _ => n - (intOf i).toNat)
 case atStart => exact ⟨0, by omega, rfl, hown, hB2⟩
 case round =>
  obtain ⟨k, hkn, rfl, hown, hB⟩ := hrel
  by_cases hlt : k < n
  ·have r0 := (hB.cell (p := ⟨w.heap.size, 0, none⟩) (by show w.heap.size < _; omega)).trans p0
   have r2 := (hB.cell (p := ⟨w.heap.size, 2, none⟩) (by show w.heap.size < _; omega)).trans p2
   have r4 := (hB.cell (p := ⟨w.heap.size, 4, none⟩) (by show w.heap.size < _; omega)).trans p4
   have r5 := (hB.cell (p := ⟨w.heap.size + 1, 0, none⟩) (by show w.heap.size + 1 < _; omega)).trans p5
   have r6 := (hB.cell (p := ⟨w.heap.size + 1 + 1, 0, none⟩) (by show w.heap.size + 1 + 1 < _; omega)).trans p6
   have hsz := hB.size
   have hC := (col_spec s l k key wd hs1 hs2 hl (by omega) (by omega) (by omega) hk (by omega) hw1 hw2).1 wr b n m w.heap.size (w.heap.size + 1) (w.heap.size + 1 + 1) r0 r4 r2 r5 r6 (by omega) (by omega) (by omega)
   have HC := Lib.hid hC
   clear hC r0 r2 r4 r5 r6
   go_wp2_with fail
   refine HC.out.mono ?_
   rintro e w3 ⟨rfl, hb3⟩
   have hown3 := hown.kept (grown_of_below hb3 none) (by simp [Value.ownBlock])
   have hcell := hown3.cellAt k (by omega)
   have hfr := hown3.frozenAt k
   have hset := colsUpto_set n wd s l key k hlt
   have HS := Lib.hid hset
   clear hset
   obtain ⟨u, hu⟩ : ∃ u, (colsUpto n wd s l key k)[k]? = some u := ⟨_, List.getElem?_eq_getElem (by simp [colsUpto]; omega)⟩
   rw [hu] at hcell
   clear hu
   go_wp2
   go_roundw
   case rel => exact ⟨k + 1, by omega, by go_num, by rw [← HS.out]; exact (hown3.stored k _).1, (hB.trans (hb3.mono hB.size)).setCell (Nat.le_refl _) _⟩
   case measure => simp [intOf]; omega
  ·obtain rfl : k = n := by omega
   go_wp2
   go_ret
   refine ⟨⟨_, rfl, ?_⟩, kW.trans (hB.mono (by omega))⟩
   have e : colsUpto k wd s l key k = (colsV k wd s l key).map (Value.int .i64) := by simp [colsUpto, colsV]
   rw [← e]
   exact hown
end Go.Proofs.YtbhppbeepmllaaaGreatDoor
