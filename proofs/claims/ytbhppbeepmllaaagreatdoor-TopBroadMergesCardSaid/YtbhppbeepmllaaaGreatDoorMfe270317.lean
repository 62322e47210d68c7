import Derived.Test.YtbhppbeepmllaaaGreatDoorMd532c772
set_option linter.unusedVariables false
set_option linter.unusedSimpArgs false
set_option maxRecDepth 100000
set_option maxHeartbeats 2000000
namespace Go.Proofs.YtbhppbeepmllaaaGreatDoor
open Go.RowKit

theorem Brd.lowQ {w0 w w' : World} {bd ag mb n : Nat} {sd lb lcap : Nat → Nat} {vs : Nat → Nat → Lv} {c : Cfg} {K : List Nat} {F : Nat → List Int} {cs : Nat → Nat → List Int} {kv : Value} {fv : Nat → Value} (S : Brd w0.heap.size w bd ag mb n sd lb lcap vs c K F cs kv fv) (hb : Below w0.heap.size w0 w) (hu : Upd (fun k => w0.heap.size ≤ k) w w') : Below w0.heap.size w0 w' := below_upd hb hu (fun i _ hi => hi)
def ActOut (c : Cfg) (w : World) (l : List Opr) (bd : Nat) (w' : World) : Prop := ∃ (B0 ag mb : Nat) (sd lb lcap : Nat → Nat) (vs : Nat → Nat → Lv) (cs0 : Nat → Nat → List Int) (kv : Value) (fv : Nat → Value),
 (∀ h, h < 3 → cs0 (h + 1) = zeroC c) ∧ w.heap.size ≤ B0 ∧ Brd B0 w' bd ag mb 3 sd lb lcap vs c (runS c ⟨[], fun _ => [], cs0⟩ (l.take 25)).K (runS c ⟨[], fun _ => [], cs0⟩ (l.take 25)).F (runS c ⟨[], fun _ => [], cs0⟩ (l.take 25)).cs kv fv ∧ Below w.heap.size w w'
theorem gacted_any (c : Cfg) (R : c.Ok) (hs : c.s < 18446744073709551616) (m0 : Int) (v : Value) (l : List Opr) (hll : l.length ≤ 9223372036854775807) (w : World) (ht : Tab w) (hv : OpsAt w w.heap.size v l) :
  Calls Tryz.prog 12 #[.agg #[.int .i64 c.b, .int .i64 c.r, .int .i64 c.wd, .int .i64 m0, .int .u64 c.s], .int .i64 c.m, v] w fun e w' => ∃ bd, e = .returned (.pointer (some ⟨bd, 0, none⟩)) ∧ ActOut c w l bd w' := by
 obtain ⟨so, cap, hv1, _⟩ := id hv
 subst hv1
 have x0 : (w.alloc (.cells #[.int .i64 c.b, .int .i64 c.r, .int .i64 c.wd, .int .i64 m0, .int .u64 c.s] 24)).heap[w.heap.size]? = some (Obj.cells #[.int .i64 c.b, .int .i64 c.r, .int .i64 c.wd, .int .i64 m0, .int .u64 c.s] 24 (0, 0)) := heap_alloc_at _ rfl
 have kb : Below w.heap.size w (w.alloc (.cells #[.int .i64 c.b, .int .i64 c.r, .int .i64 c.wd, .int .i64 m0, .int .u64 c.s] 24)) := (Below.refl _ _).alloc (Nat.le_refl _) _
 have htw := ht.below kb ht.lt
 have hv2 := hv.below kb
 obtain ⟨W, hW⟩ : ∃ W, w.alloc (.cells #[.int .i64 c.b, .int .i64 c.r, .int .i64 c.wd, .int .i64 m0, .int .u64 c.s] 24) = W := ⟨_, rfl⟩
 rw [hW] at x0 kb htw hv2
 have q0 := cell_of_heap x0 0 _ rfl
 have q1 := cell_of_heap x0 1 _ rfl
 have q2 := cell_of_heap x0 2 _ rfl
 have q3 := cell_of_heap x0 3 _ rfl
 have q4 := cell_of_heap x0 4 _ rfl
 have HBR := Lib.hid (gbroad_any c R hs m0 W htw)
 have HV := Lib.hid (And.intro hv2 kb)
 clear x0 hv hv2 kb
 go_enter Tryz.func12, Tryz.ntmps12
 go_wp2_with fail
 clear hW q0 q1 q2 q3 q4
 refine HBR.out.mono ?_
 rintro e w1 ⟨bd, rfl, ag, mb, sd, lb, lcap, vs, cs0, kv0, fv0, S0, hz, hB0⟩
 have HZ := Lib.hid hz
 clear HBR hz
 go_wp2_with fail
 go_loopw [8] (fun i wr => ∃ (j : Nat) (kv : Value) (fv : Nat → Value), j ≤ l.length ∧ j ≤ 25 ∧ i = .int .i64 (j : Int) ∧ Brd W.heap.size wr bd ag mb 3 sd lb lcap vs c (runS c ⟨[], fun _ => [], cs0⟩ (l.take j)).K (runS c ⟨[], fun _ => [], cs0⟩ (l.take j)).F (runS c ⟨[], fun _ => [], cs0⟩ (l.take j)).cs kv fv ∧ Below W.heap.size W wr) (fun i _ => 26 - (intOf i).toNat)
 case atStart => exact ⟨0, kv0, fv0, by omega, by omega, rfl, S0, hB0⟩
 case round =>
  obtain ⟨j, kv, fv, hj1, hj2, rfl, S, hB⟩ := hrel
  by_cases hlt : j < l.length
  ·have c0 : decide ((j : Int) < l.length) = true := by simp; omega
   by_cases h25 : j < 25
   ·have c1 : decide ((j : Int) < 25) = true := by simp; omega
    obtain ⟨p, hp⟩ : ∃ p, l[j]? = some p := ⟨_, List.getElem?_eq_getElem hlt⟩
    obtain ⟨so2, cap2, hv3, HO⟩ := HV.out.1
    cases hv3
    obtain ⟨hpo, b, o, hso, hbl, y0, y1, y2, y3, y4⟩ := HO j p hp
    subst hso
    have kk := hB
    have hzz := HV.out.2.size
    have A := runS_ok R HZ.out l j hj1
    have hpow : (1 : Int) ≤ 2 ^ j := by
     have h1 := Nat.one_le_two_pow (n := j)
     have h2 : ((2 ^ j : Nat) : Int) = 2 ^ j := by simp
     omega
    have hpow2 : (2 : Int) ^ j ≤ 33554432 := by
     have h1 : 2 ^ j ≤ 2 ^ 25 := Nat.pow_le_pow_right (by decide) (by omega)
     have h2 : ((2 ^ j : Nat) : Int) = 2 ^ j := by simp
     omega
    have HD := Lib.hid (fun wr' (S : Brd W.heap.size wr' bd ag mb 3 sd lb lcap vs c _ _ _ kv fv) => does_any S R _ j A (by omega) (by omega) (by omega) p hpo)
    have r0 := (hB.cell (p := ⟨b, _, none⟩) (by dsimp only; omega)).trans y0
    have r1 := (hB.cell (p := ⟨b, _, none⟩) (by dsimp only; omega)).trans y1
    have r2 := (hB.cell (p := ⟨b, _, none⟩) (by dsimp only; omega)).trans y2
    have r3 := (hB.cell (p := ⟨b, _, none⟩) (by dsimp only; omega)).trans y3
    have r4 := (hB.cell (p := ⟨b, _, none⟩) (by dsimp only; omega)).trans y4
    have HR := Lib.hid (And.intro S (And.intro hB hp))
    obtain ⟨n, hn⟩ : ∃ n, l.length = n := ⟨_, rfl⟩
    rw [hn] at hll hlt c0 ⊢
    have HN := Lib.hid hn
    clear S hB kk y0 y1 y2 y3 y4 HO A hp hn
    go_wp2_with fail
    refine (HD.out _ HR.out.1).mono ?_
    rintro e w5 ⟨rfl, ⟨kv5, fv5, S5⟩, u5⟩
    have hB5 := HR.out.1.lowQ HR.out.2.1 u5
    have HR5 := Lib.hid (And.intro S5 hB5)
    clear S5 u5 hB5
    go_wp2_with fail
    go_roundw
    case rel =>
     have hn := HN.out
     have hp := HR.out.2.2
     have hj : j < l.length := by omega
     refine ⟨j + 1, kv5, fv5, by omega, by omega, by simp, ?_, HR5.out.2⟩
     have e : l[j] = p := by rw [List.getElem?_eq_getElem hj] at hp; exact Option.some.inj hp
     rw [List.take_succ_eq_append_getElem hj, runS_snoc, e]
     exact HR5.out.1
    case measure => simp [intOf]; omega
   ·obtain rfl : j = 25 := by omega
    have c1 : decide (((25 : Nat) : Int) < 25) = false := by decide
    have HF := Lib.hid (show ActOut c w l bd wr from ⟨W.heap.size, ag, mb, sd, lb, lcap, vs, cs0, kv, fv, HZ.out, HV.out.2.size, S, HV.out.2.trans (hB.mono HV.out.2.size)⟩)
    clear S hB
    go_wp2_with fail
    go_ret
    exact ⟨bd, rfl, HF.out⟩
  ·obtain rfl : j = l.length := by omega
   have c0 : decide ((l.length : Int) < l.length) = false := by simp
   have HF := Lib.hid (show ActOut c w l bd wr from ⟨W.heap.size, ag, mb, sd, lb, lcap, vs, cs0, kv, fv, HZ.out, HV.out.2.size, by rw [List.take_of_length_le (show l.length ≤ 25 by omega)]; rw [List.take_length] at S; exact S, HV.out.2.trans (hB.mono HV.out.2.size)⟩)
   clear S hB
   go_wp2_with fail
   go_ret
   exact ⟨bd, rfl, HF.out⟩
end Go.Proofs.YtbhppbeepmllaaaGreatDoor

namespace Go.Proofs.YtbhppbeepmllaaaGreatDoor
open Go.RowKit

variable {B0 : Nat} {w w' w1 : World} {bd ag mb n : Nat} {c : Cfg} {K : List Nat} {F : Nat → List Int} {kv : Value} {fv : Nat → Value}
end Go.Proofs.YtbhppbeepmllaaaGreatDoor
