import Derived.Test.YtbhppbeepmllaaaGreatDoorMbee4af9e
set_option linter.unusedVariables false
set_option linter.unusedSimpArgs false
set_option maxRecDepth 100000
set_option maxHeartbeats 2000000
namespace Go.Proofs.YtbhppbeepmllaaaGreatDoor
open Go.RowKit

theorem ln_cat5 (v : List UInt8) (V R1 R2 R3 R4 R5 : ByteArray) (a b d e g : Int) (hV : V.data.toList = v ++ [32]) (h1 : R1 = sOf (Lib.itoa a)) (h2 : R2 = sOf (Lib.itoa b)) (h3 : R3 = sOf (Lib.itoa d)) (h4 : R4 = sOf (Lib.itoa e)) (h5 : R5 = sOf (Lib.itoa g)) :
  (V ++ R1 ++ ⟨#[32]⟩ ++ R2 ++ ⟨#[32]⟩ ++ R3 ++ ⟨#[32]⟩ ++ R4 ++ ⟨#[32]⟩ ++ R5).data.toList = lnB v [a, b, d, e, g] := by
 subst h1; subst h2; subst h3; subst h4; subst h5
 simp only [app_list, hV, sOf_list, lnB, List.flatMap_cons, List.flatMap_nil]
 simp
theorem seed_wrap (s : Nat) (hs : s < 18446744073709551616) : (-9223372036854775808 ≤ wrap64 (s : Int) ∧ wrap64 (s : Int) ≤ 9223372036854775807) ∧ IntKind.u64.wrap (wrap64 (s : Int)) = s := by
 rw [IntKind.wrap_u64]
 by_cases h : s < 9223372036854775808
 ·have e : wrap64 (s : Int) = s := IntWalk.wrap64_in _ (by omega)
  rw [e]
  exact ⟨by omega, Int.emod_eq_of_lt (by omega) (by omega)⟩
 ·obtain ⟨t, rfl⟩ : ∃ t, s = 9223372036854775808 + t := ⟨s - 9223372036854775808, by omega⟩
  have ht : t < 9223372036854775808 := by omega
  have e : wrap64 ((9223372036854775808 + t : Nat) : Int) = (t : Int) - 9223372036854775808 := by
   unfold wrap64
   rw [show ((9223372036854775808 + t : Nat) : Int) + 9223372036854775808 = (t : Int) + 18446744073709551616 by omega, Int.add_emod_right, Int.emod_eq_of_lt (by omega) (by omega)]
  rw [e]
  refine ⟨by omega, ?_⟩
  rw [show (t : Int) - 9223372036854775808 = ((9223372036854775808 + t : Nat) : Int) - 18446744073709551616 by omega, Int.sub_emod_right, Int.emod_eq_of_lt (by omega) (by omega)]
def BroadNew (c : Cfg) (w : World) (bd : Nat) (w' : World) : Prop := ∃ (ag mb : Nat) (sd lb lcap : Nat → Nat) (vs : Nat → Nat → Lv) (cs : Nat → Nat → List Int) (kv : Value) (fv : Nat → Value),
 Brd w.heap.size w' bd ag mb 3 sd lb lcap vs c [] (fun _ => []) cs kv fv ∧ (∀ h, h < 3 → cs (h + 1) = zeroC c) ∧ Below w.heap.size w w'
theorem gbroad_any (c : Cfg) (R : c.Ok) (hs : c.s < 18446744073709551616) (m0 : Int) (w : World) (ht : Tab w) :
  Calls Tryz.prog 36 #[.agg #[.int .i64 c.b, .int .i64 c.r, .int .i64 c.wd, .int .i64 m0, .int .u64 c.s], .int .i64 c.m] w fun e w' => ∃ bd, e = .returned (.pointer (some ⟨bd, 0, none⟩)) ∧ BroadNew c w bd w' := by
 have hb1 := R.b1; have hb2 := R.b2; have hr1 := R.r1; have hr2 := R.r2; have hw1 := R.w1; have hw2 := R.w2; have hm1 := R.m1; have hm2 := R.m2
 have x0 : (w.alloc (.cells #[.int .i64 c.b, .int .i64 c.r, .int .i64 c.wd, .int .i64 m0, .int .u64 c.s] 24)).heap[w.heap.size]? = some (Obj.cells #[.int .i64 c.b, .int .i64 c.r, .int .i64 c.wd, .int .i64 m0, .int .u64 c.s] 24 (0, 0)) := heap_alloc_at _ rfl
 have x1 : ((w.alloc (.cells #[.int .i64 c.b, .int .i64 c.r, .int .i64 c.wd, .int .i64 m0, .int .u64 c.s] 24)).setCell ⟨w.heap.size, 3, none⟩ (.int .i64 c.m)).heap[w.heap.size]? = some (Obj.cells #[.int .i64 c.b, .int .i64 c.r, .int .i64 c.wd, .int .i64 c.m, .int .u64 c.s] 24 (0, 0)) := heap_setCell_same _ _ 3 _ _ (.int .i64 c.m) x0
 have kb : Below w.heap.size w ((w.alloc (.cells #[.int .i64 c.b, .int .i64 c.r, .int .i64 c.wd, .int .i64 m0, .int .u64 c.s] 24)).setCell ⟨w.heap.size, 3, none⟩ (.int .i64 c.m)) := ((Below.refl _ _).alloc (Nat.le_refl _) _).setCell (by simp) _
 have q3 := cell_of_heap x0 3 _ rfl
 obtain ⟨W, hW⟩ : ∃ W, ((w.alloc (.cells #[.int .i64 c.b, .int .i64 c.r, .int .i64 c.wd, .int .i64 m0, .int .u64 c.s] 24)).setCell ⟨w.heap.size, 3, none⟩ (.int .i64 c.m)) = W := ⟨_, rfl⟩
 rw [hW] at x1 kb
 have lx := lt_of_block x1
 have q0' := cell_of_heap x1 0 _ rfl
 have q1' := cell_of_heap x1 1 _ rfl
 have q2' := cell_of_heap x1 2 _ rfl
 have q3' := cell_of_heap x1 3 _ rfl
 have q4' := cell_of_heap x1 4 _ rfl
 have HX := Lib.hid (And.intro x1 kb)
 clear x0 x1
 go_enter Tryz.func36, Tryz.ntmps36
 go_wp2_with fail
 clear hW q3
 have hdr : W.drew.cell? ⟨w.heap.size, 0, none⟩ = some (.int .i64 c.b) ∧ W.drew.cell? ⟨w.heap.size, 1, none⟩ = some (.int .i64 c.r) ∧ W.drew.cell? ⟨w.heap.size, 2, none⟩ = some (.int .i64 c.wd) ∧ W.drew.cell? ⟨w.heap.size, 3, none⟩ = some (.int .i64 c.m) ∧ W.drew.cell? ⟨w.heap.size, 4, none⟩ = some (.int .u64 c.s) := ⟨q0', q1', q2', q3', q4'⟩
 refine wp_region_T (fun k X => k = 0 ∨ k = 3 → (X.cell? ⟨w.heap.size, 0, none⟩ = some (.int .i64 c.b) ∧ X.cell? ⟨w.heap.size, 1, none⟩ = some (.int .i64 c.r) ∧ X.cell? ⟨w.heap.size, 2, none⟩ = some (.int .i64 c.wd) ∧ X.cell? ⟨w.heap.size, 3, none⟩ = some (.int .i64 c.m) ∧ X.cell? ⟨w.heap.size, 4, none⟩ = some (.int .u64 c.s))) (by kernel_rfl) ?_
 refine wpAnyT_take2 [0, 3] (i := 1) (v := .agg #[.int .i64 c.b, .int .i64 c.r, .int .i64 c.wd, .int .i64 c.m, .int .u64 c.s]) (S := fun X => (X.cell? ⟨w.heap.size, 0, none⟩ = some (.int .i64 c.b) ∧ X.cell? ⟨w.heap.size, 1, none⟩ = some (.int .i64 c.r) ∧ X.cell? ⟨w.heap.size, 2, none⟩ = some (.int .i64 c.wd) ∧ X.cell? ⟨w.heap.size, 3, none⟩ = some (.int .i64 c.m) ∧ X.cell? ⟨w.heap.size, 4, none⟩ = some (.int .u64 c.s))) rfl (by kernel_rfl) (by kernel_rfl) (by kernel_rfl) (by kernel_rfl) (fun c a w h => (calm_panic _ c _ w h).elim) (fun k hk X h => h (by simpa using hk)) (fun X h _ => h) (.inl ⟨by rfl, fun X hX => by obtain ⟨h0, h1, h2, h3, h4⟩ := hX; go_simp⟩) hdr ?_
 refine wpAnyT_one (i := 0) (by kernel_rfl) rfl (fun K2 hK2 => ?_)
 go_simp
 refine (new_any _).mono ?_
 rintro e w2 ⟨rfl, A2, b2⟩
 have hc2 : w2.cell? ⟨w.heap.size, 0, none⟩ = some (.int .i64 c.b) ∧ w2.cell? ⟨w.heap.size, 1, none⟩ = some (.int .i64 c.r) ∧ w2.cell? ⟨w.heap.size, 2, none⟩ = some (.int .i64 c.wd) ∧ w2.cell? ⟨w.heap.size, 3, none⟩ = some (.int .i64 c.m) ∧ w2.cell? ⟨w.heap.size, 4, none⟩ = some (.int .u64 c.s) := ⟨(b2.cell (p := ⟨w.heap.size, 0, none⟩) lx).trans hdr.1, (b2.cell (p := ⟨w.heap.size, 1, none⟩) lx).trans hdr.2.1, (b2.cell (p := ⟨w.heap.size, 2, none⟩) lx).trans hdr.2.2.1, (b2.cell (p := ⟨w.heap.size, 3, none⟩) lx).trans hdr.2.2.2.1, (b2.cell (p := ⟨w.heap.size, 4, none⟩) lx).trans hdr.2.2.2.2⟩
 refine hK2.out _ _ (fun _ => hc2) ?_
 refine wpAnyT_one (i := 2) (by kernel_rfl) rfl (fun K3 hK3 => ?_)
 go_simp
 refine hK3.out _ _ (fun h => absurd h (by decide)) ?_
 refine wpAnyT_one (i := 3) (by kernel_rfl) rfl (fun K4 hK4 => ?_)
 go_simp
 refine hK4.out _ _ (fun _ => ⟨heapcell_alloc _ hc2.1, heapcell_alloc _ hc2.2.1, heapcell_alloc _ hc2.2.2.1, heapcell_alloc _ hc2.2.2.2.1, heapcell_alloc _ hc2.2.2.2.2⟩) ?_
 refine wpAnyT_walk [4] _ _ _ (by intro k hk X h; simp at hk; omega) (by kernel_rfl) ?_
 simp only [opsAt, List.map_cons, List.map_nil, List.getElem?_toArray, List.getElem?_cons_zero, List.getElem?_cons_succ, Option.getD_some]
 unfold calmQ
 clear hK2 K2 hK3 K3 hK4 K4 hdr hc2 q0' q1' q2' q3' q4'
 go_wp2_with fail
 replace b2 := below_drew_left b2
 have x2 := (b2.block _ lx).trans HX.out.1
 have k3 : Below w2.heap.size w2 (w2.alloc (.cells #[.pointer (some ⟨W.heap.size + 1, 0, none⟩), .int .i64 c.b, .int .i64 c.r, .int .i64 c.wd, .int .i64 c.m, .int .u64 c.s, .slice none 0 0, .slice none 0 0, .slice none 0 0, .slice none 0 0] 37)) := (Below.refl _ _).alloc (Nat.le_refl _) _
 have kw2 := HX.out.2.trans (b2.mono HX.out.2.size)
 have kw3 := kw2.trans (k3.mono kw2.size)
 have x3 := (k3.block _ (lt_of_block x2)).trans x2
 have y3 : (w2.alloc (.cells #[.pointer (some ⟨W.heap.size + 1, 0, none⟩), .int .i64 c.b, .int .i64 c.r, .int .i64 c.wd, .int .i64 c.m, .int .u64 c.s, .slice none 0 0, .slice none 0 0, .slice none 0 0, .slice none 0 0] 37)).heap[w2.heap.size]? = some (Obj.cells #[.pointer (some ⟨W.heap.size + 1, 0, none⟩), .int .i64 c.b, .int .i64 c.r, .int .i64 c.wd, .int .i64 c.m, .int .u64 c.s, .slice none 0 0, .slice none 0 0, .slice none 0 0, .slice none 0 0] 37 (0, 0)) := heap_alloc_at _ rfl
 have A3 := A2.below k3
 have sz2 := b2.size
 have lag : W.heap.size + 1 < w2.heap.size := lt_of_block A2.hd
 have lmb : W.heap.size < w2.heap.size := A2.map.lt
 have htw := ht.lt
 have AG0 : Ag (fun k => w.heap.size < k ∧ k ≠ w2.heap.size) (w2.alloc (.cells #[.pointer (some ⟨W.heap.size + 1, 0, none⟩), .int .i64 c.b, .int .i64 c.r, .int .i64 c.wd, .int .i64 c.m, .int .u64 c.s, .slice none 0 0, .slice none 0 0, .slice none 0 0, .slice none 0 0] 37)) (W.heap.size + 1) W.heap.size 0 (fun _ => 0) (fun _ => 0) (fun _ => 0) (fun _ _ => ⟨0, 0, 0, 0⟩) c (fun _ _ => []) :=
  ⟨A3, ht.below kw3 htw, fun h h1 h2 => by omega, fun h k h1 h2 => by omega, ⟨by omega, by omega⟩, ⟨by omega, by omega⟩, fun h h1 h2 => by omega, fun h => by omega⟩
 have lbd : w.heap.size ≤ w2.heap.size := kw2.size
 obtain ⟨W3, hW3⟩ : ∃ W3, w2.alloc (.cells #[.pointer (some ⟨W.heap.size + 1, 0, none⟩), .int .i64 c.b, .int .i64 c.r, .int .i64 c.wd, .int .i64 c.m, .int .u64 c.s, .slice none 0 0, .slice none 0 0, .slice none 0 0, .slice none 0 0] 37) = W3 := ⟨_, rfl⟩
 rw [hW3] at AG0 y3 x3 kw3 ⊢
 obtain ⟨bd, hbd⟩ : ∃ bd, w2.heap.size = bd := ⟨_, rfl⟩
 obtain ⟨ag, hag⟩ : ∃ ag, W.heap.size + 1 = ag := ⟨_, rfl⟩
 obtain ⟨mb, hmb⟩ : ∃ mb, W.heap.size = mb := ⟨_, rfl⟩
 rw [hbd, hag, hmb] at AG0
 rw [hbd] at y3 lbd ⊢
 rw [hag] at y3 ⊢
 clear hW3 hbd hag hmb A3 k3 A2 x2 b2 kw2 sz2 lag lmb kb HX lx
 obtain ⟨hs1, hs2⟩ := seed_wrap c.s hs
 obtain ⟨sd64, hsd64⟩ : ∃ s, wrap64 (c.s : Int) = s := ⟨_, rfl⟩
 rw [hsd64] at hs1 hs2
 have HS2 := Lib.hid hs2
 obtain ⟨hs1a, hs1b⟩ := hs1
 clear hs2
 go_loopw [6] (fun i wr => ∃ (j : Nat) (sd lb lcap : Nat → Nat) (vs : Nat → Nat → Lv) (cs : Nat → Nat → List Int), j ≤ 3 ∧ i = .int .i64 ((j : Int) + 1) ∧ Ag (fun k => w.heap.size < k ∧ k ≠ bd) wr ag mb j sd lb lcap vs c cs ∧ (∀ h, h < j → cs (h + 1) = zeroC c) ∧ wr.heap[bd]? = W3.heap[bd]? ∧ wr.heap[w.heap.size]? = some (Obj.cells #[.int .i64 c.b, .int .i64 c.r, .int .i64 c.wd, .int .i64 c.m, .int .u64 c.s] 24 (0, 0)) ∧ Below w.heap.size w wr) (fun i _ => 4 - (intOf i).toNat)
 case atStart => exact ⟨0, _, _, _, _, _, by omega, rfl, AG0, fun h hh => by omega, rfl, x3, kw3⟩
 case round =>
  obtain ⟨j, sd, lb, lcap, vs, cs, hj, rfl, A, hz, hbd, hbx, hB⟩ := hrel
  by_cases hj3 : j < 3
  ·have e1 : decide (((j : Int) + 1) ≤ 3) = true := by simp; omega
   have HT1 := Lib.hid fun w => gtext_any (c.b : Int) (by omega) (by omega) w
   have s1 := text_size (c.b : Int) (by omega) (by omega)
   obtain ⟨R1, hR1⟩ : ∃ R1, sOf (Lib.itoa (c.b : Int)) = R1 := ⟨_, rfl⟩
   rw [hR1] at HT1 s1
   have HT2 := Lib.hid fun w => gtext_any (c.r : Int) (by omega) (by omega) w
   have s2 := text_size (c.r : Int) (by omega) (by omega)
   obtain ⟨R2, hR2⟩ : ∃ R2, sOf (Lib.itoa (c.r : Int)) = R2 := ⟨_, rfl⟩
   rw [hR2] at HT2 s2
   have HT3 := Lib.hid fun w => gtext_any (c.wd : Int) (by omega) (by omega) w
   have s3 := text_size (c.wd : Int) (by omega) (by omega)
   obtain ⟨R3, hR3⟩ : ∃ R3, sOf (Lib.itoa (c.wd : Int)) = R3 := ⟨_, rfl⟩
   rw [hR3] at HT3 s3
   have HT4 := Lib.hid fun w => gtext_any (c.m : Int) (by omega) (by omega) w
   have s4 := text_size (c.m : Int) (by omega) (by omega)
   obtain ⟨R4, hR4⟩ : ∃ R4, sOf (Lib.itoa (c.m : Int)) = R4 := ⟨_, rfl⟩
   rw [hR4] at HT4 s4
   have HT5 := Lib.hid fun w => gtext_any sd64 (by omega) (by omega) w
   have s5 := text_size sd64 (by omega) (by omega)
   obtain ⟨R5, hR5⟩ : ∃ R5, sOf (Lib.itoa sd64) = R5 := ⟨_, rfl⟩
   rw [hR5] at HT5 s5
   have hcat := ln_cat5 [99, 114, 101, 97, 116, 101] ⟨#[99, 114, 101, 97, 116, 101, 32]⟩ R1 R2 R3 R4 R5 (c.b : Int) (c.r : Int) (c.wd : Int) (c.m : Int) sd64 rfl hR1.symm hR2.symm hR3.symm hR4.symm hR5.symm
   have HC := Lib.hid hcat
   have yr := hbd.trans y3
   have lr := lt_of_block yr
   have lxr := lt_of_block hbx
   have ya := cell_of_heap yr 0 _ rfl
   have yx0 := cell_of_heap hbx 0 _ rfl
   have yx1 := cell_of_heap hbx 1 _ rfl
   have yx2 := cell_of_heap hbx 2 _ rfl
   have yx3 := cell_of_heap hbx 3 _ rfl
   have yx4 := cell_of_heap hbx 4 _ rfl
   have HB := Lib.hid (And.intro A (And.intro hz (And.intro hbd (And.intro hbx hB))))
   clear A hz hbd hbx hB yr hR1 hR2 hR3 hR4 hR5 hcat
   go_wp2_with fail
   refine wp_region_mixA wr.heap.size [0, 1, 2, 3, 4, 5, 6, 7, 8, 9, 10, 11, 12, 13, 14, 15, 16, 17, 18, 19, 20, 21, 22, 23, 24, 25, 26, 27, 28] [29, 30, 31, 32, 33, 34] (by kernel_rfl) (by kernel_rfl) rfl ?_
   simp only [opsAt, List.map_cons, List.map_nil, List.getElem?_toArray, List.getElem?_cons_zero, List.getElem?_cons_succ, Option.getD_some]
   have za := fun k : After wr.heap.size wr => k.cell lr ya
   have z0 := fun k : After wr.heap.size wr => k.cell lxr yx0
   have z1 := fun k : After wr.heap.size wr => k.cell lxr yx1
   have z2 := fun k : After wr.heap.size wr => k.cell lxr yx2
   have z3 := fun k : After wr.heap.size wr => k.cell lxr yx3
   have z4 := fun k : After wr.heap.size wr => k.cell lxr yx4
   repeat (go_big_quiet_step (((go_at_call 14; first | exact after_of (Nat.le_refl _) _ (HT1.out _) | exact after_of (Nat.le_refl _) _ (HT2.out _) | exact after_of (Nat.le_refl _) _ (HT3.out _) | exact after_of (Nat.le_refl _) _ (HT4.out _) | exact after_of (Nat.le_refl _) _ (HT5.out _)))))
   refine wpQuiet_nil ?_
   intro kk
   unfold calmQ
   have kb := kk.h
   clear za z0 z1 z2 z3 z4
   obtain ⟨W6, hw1⟩ : ∃ W6, kk.w = W6 := ⟨_, rfl⟩
   rw [hw1] at kb
   rw [hw1]
   clear hw1
   obtain ⟨A, hz, hbd, hbx, hB⟩ := HB.out
   have A6 := A.below kb
   have hP6 : ∀ k, W6.heap.size ≤ k → w.heap.size < k ∧ k ≠ bd := fun k hk => by have := kb.size; have := hB.size; exact ⟨by omega, by omega⟩
   have HL := Lib.hid (ln_create A6 R (by omega) hP6 sd64 ⟨hs1a, hs1b⟩ HS2.out _ HC.out)
   have HT := Lib.hid fun w => gtext_any (((j + 1 : Nat) : Int)) (by omega) (by omega) w
   have hcatH : sOf ([104, 97, 110, 100, 108, 101, 32] ++ Lib.itoa ((j + 1 : Nat) : Int)) = (⟨#[104, 97, 110, 100, 108, 101, 32]⟩ : ByteArray) ++ sOf (Lib.itoa ((j + 1 : Nat) : Int)) := (sOf_append _ _).symm
   have hsz6 := text_size (((j + 1 : Nat) : Int)) (by omega) (by omega)
   rw [hcatH] at HL
   obtain ⟨X, hX⟩ : ∃ X, sOf (Lib.itoa ((j + 1 : Nat) : Int)) = X := ⟨_, rfl⟩
   rw [hX] at HL HT hsz6
   have eJ : (((j + 1 : Nat) : Int)) = (j : Int) + 1 := by omega
   rw [eJ] at HT
   clear A hz hbd hbx hB A6 hX hcatH eJ ya
   go_wp2_with fail
   refine HL.out.mono ?_
   rintro e W7 ⟨rfl, ⟨st, lb1, lc1, us, A7⟩, u7⟩
   have HA7 := Lib.hid (And.intro A7 u7)
   clear A7 u7
   go_wp2_with fail
   refine (HT.out _).mono ?_
   rintro e W8 ⟨rfl, b8⟩
   go_wp2_with fail
   obtain ⟨A, hz, hbd, hbx, hB⟩ := HB.out
   obtain ⟨A7, u7⟩ := HA7.out
   have z6 := kb.size
   have z7 := u7.size
   have hb8 : Below w.heap.size w W8 := by
    have h6 := hB.trans (kb.mono hB.size)
    have h7 := below_upd h6 u7 (fun i _ hi => by omega)
    exact h7.trans (b8.mono h7.size)
   refine ⟨⟨j + 1, _, _, _, _, _, by omega, by simp, A7.below b8, fun h hh => ?_, ?_, ?_, hb8⟩, by simp [intOf]; omega⟩
   ·by_cases e : h = j
    ·subst e; exact put1_same _ _ _
    ·unfold put1; rw [if_neg (by omega)]; exact hz h (by omega)
   ·exact (b8.block _ (by omega)).trans ((u7.block _ (by omega) (fun h => h.2 rfl)).trans ((kb.block _ lr).trans hbd))
   ·exact (b8.block _ (by omega)).trans ((u7.block _ (by omega) (fun h => by omega)).trans ((kb.block _ lxr).trans hbx))
  ·obtain rfl : j = 3 := by omega
   have e1 : decide ((((3 : Nat) : Int) + 1) ≤ 3) = false := by decide
   have yr := hbd.trans y3
   have A3 := A.refoot
   have hfl : ∀ b, foot ag mb 3 vs c b → w.heap.size < b ∧ b ≠ bd := by
    rintro b (h | h | ⟨g, g1, g2, hc⟩)
    ·rw [h]; exact A.pa
    ·rw [h]; exact A.pm
    ·exact A.pc g g1 g2 b hc
   have S : Brd w.heap.size wr bd ag mb 3 sd lb lcap vs c [] (fun _ => []) cs (.slice none 0 0) (fun _ => .slice none 0 0) := by
    refine ⟨A3, ⟨yr, World.ownsRow_nil _ _ _ _, fun h h3 => World.ownsRow_nil _ _ _ _, fun h h3 => rfl, fun g h g3 h3 hne b hb => by simp [Value.ownBlock] at hb, lbd⟩, ?_, fun b hb => by have := (hfl b hb).1; omega, htw⟩
    rintro b (h | h | ⟨g, g3, h⟩)
    ·subst h; exact fun hf => (hfl _ hf).2 rfl
    ·simp [Value.ownBlock] at h
    ·simp [Value.ownBlock] at h
   have HF := Lib.hid (show BroadNew c w bd wr from ⟨ag, mb, sd, lb, lcap, vs, cs, _, _, S, hz, hB⟩)
   clear S A A3 hfl yr hz hbd hbx hB
   go_wp2_with fail
   go_ret
   exact ⟨bd, rfl, HF.out⟩
end Go.Proofs.YtbhppbeepmllaaaGreatDoor

namespace Go.Proofs.YtbhppbeepmllaaaGreatDoor
open Go.RowKit

structure Opr where
 kind : Int
 H : Int
 O : Int
 key : Nat
 D : Int
structure Opr.Ok (p : Opr) : Prop where
 k1 : p.key < 18446744073709551616
 d0 : -9223372036854775808 ≤ p.D
 d1 : p.D ≤ 9223372036854775807
structure Sta where
 K : List Nat
 F : Nat → List Int
 cs : Nat → Nat → List Int
noncomputable def stepS (c : Cfg) (s : Sta) (p : Opr) : Sta :=
 if p.kind = 3 then ⟨s.K, pairF (· + ·) s.F (handN p.H) (handN p.O), pairC c (· + ·) s.cs (handN p.H) (handN p.O)⟩
 else if p.kind = 4 then (if c.m = 2 then s else ⟨s.K, pairF (· - ·) s.F (handN p.H) (handN p.O), pairC c (· - ·) s.cs (handN p.H) (handN p.O)⟩)
 else ⟨plK s.K (p.key % c.keys 0), addF s.K s.F (handN p.H) (p.key % c.keys 0) (smallI c.m p.D), addC c s.cs (handN p.H) (p.key % c.keys 0) (smallI c.m p.D)⟩
theorem AbOk.mono {c : Cfg} {M M' : Int} {N N' : Nat} {K : List Nat} {F : Nat → List Int} {cs : Nat → Nat → List Int} (A : AbOk c M N K F cs) (h : M ≤ M') (hN : N ≤ N') : AbOk c M' N' K F cs :=
 ⟨A.keys, A.nd, A.len, Nat.le_trans A.few hN, fun g g3 => (A.fb g g3).mono h, fun g g3 l hl => (A.cb g g3 l hl).mono h, A.lin, A.cons⟩
theorem stepS_ok {c : Cfg} (R : c.Ok) {s : Sta} {M : Int} {N : Nat} (A : AbOk c M N s.K s.F s.cs) (hM : 1048576 ≤ M) (p : Opr) : AbOk c (2 * M) (N + 1) (stepS c s p).K (stepS c s p).F (stepS c s p).cs := by
 have h1 := handN_lt p.H
 have h2 := handN_lt p.O
 have hs := small_bd c.m p.D
 have hk : p.key % c.keys 0 < c.keys 0 := Nat.mod_lt _ (Nat.one_le_two_pow)
 unfold stepS
 by_cases h3 : p.kind = 3
 ·simp only [if_pos h3]; exact A.merge R (by omega) h1 h2
 ·simp only [if_neg h3]
  by_cases h4 : p.kind = 4
  ·simp only [if_pos h4]
   by_cases hm : c.m = 2
   ·simp only [if_pos hm]; exact A.mono (by omega) (by omega)
   ·simp only [if_neg hm]; exact A.minus R (by omega) hm h1 h2
  ·simp only [if_neg h4]; exact A.add R hM h1 hk ⟨by omega, by omega⟩ hs.2.2
variable {B0 : Nat} {w w' w1 : World} {bd ag mb n : Nat} {sd lb lcap : Nat → Nat} {vs : Nat → Nat → Lv} {c : Cfg} {kv kv' : Value} {fv fv' : Nat → Value}
theorem does_any {s : Sta} (S : Brd B0 w bd ag mb 3 sd lb lcap vs c s.K s.F s.cs kv fv) (R : c.Ok) (M : Int) (N : Nat) (A : AbOk c M N s.K s.F s.cs) (hM : 1048576 ≤ M) (hM2 : M ≤ 562949953421312) (hN : N ≤ 3000) (p : Opr) (hp : p.Ok) :
  Calls Tryz.prog 38 #[.pointer (some ⟨bd, 0, none⟩), .agg #[.int .i64 p.kind, .int .i64 p.H, .int .i64 p.O, .int .u64 (p.key : Int), .int .i64 p.D]] w fun e w' => e = .returned (.bool true) ∧ (∃ kv' fv', Brd B0 w' bd ag mb 3 sd lb lcap vs c (stepS c s p).K (stepS c s p).F (stepS c s p).cs kv' fv') ∧ Upd (fun k => B0 ≤ k) w w' := by
 unfold stepS
 by_cases h3 : p.kind = 3
 ·simp only [if_pos h3]
  rw [h3]
  exact does_merge S R M N A hM hM2 hN p.H p.O p.D p.key
 ·simp only [if_neg h3]
  by_cases h4 : p.kind = 4
  ·simp only [if_pos h4]
   rw [h4]
   by_cases hm : c.m = 2
   ·simp only [if_pos hm]
    exact does_subno S R M N A hM hM2 hN hm p.H p.O p.D p.key
   ·simp only [if_neg hm]
    exact does_minus S R M N A hM hM2 hN hm p.H p.O p.D p.key
  ·simp only [if_neg h4]
   exact does_add S R M N A hM hM2 hN p.kind p.H p.O p.D p.key h3 h4 hp.k1 hp.d0 hp.d1
def OpsAt (w : World) (B : Nat) (v : Value) (l : List Opr) : Prop := ∃ so cap, v = .slice so l.length cap ∧ ∀ i p, l[i]? = some p → p.Ok ∧ ∃ b o, so = some ⟨b, o, none⟩ ∧ b < B ∧ w.cell? ⟨b, o + i * 5, none⟩ = some (.int .i64 p.kind) ∧ w.cell? ⟨b, o + i * 5 + 1, none⟩ = some (.int .i64 p.H) ∧ w.cell? ⟨b, o + i * 5 + 2, none⟩ = some (.int .i64 p.O) ∧ w.cell? ⟨b, o + i * 5 + 3, none⟩ = some (.int .u64 (p.key : Int)) ∧ w.cell? ⟨b, o + i * 5 + 4, none⟩ = some (.int .i64 p.D)
theorem OpsAt.below {B : Nat} {v : Value} {l : List Opr} (h : OpsAt w B v l) (hb : Below B w w') : OpsAt w' B v l := by
 obtain ⟨so, cap, hv, H⟩ := h
 refine ⟨so, cap, hv, fun i p hi => ?_⟩
 obtain ⟨hp, b, o, h1, h2, c0, c1, c2, c3, c4⟩ := H i p hi
 exact ⟨hp, b, o, h1, h2, (hb.cell (p := ⟨b, _, none⟩) h2).trans c0, (hb.cell (p := ⟨b, _, none⟩) h2).trans c1, (hb.cell (p := ⟨b, _, none⟩) h2).trans c2, (hb.cell (p := ⟨b, _, none⟩) h2).trans c3, (hb.cell (p := ⟨b, _, none⟩) h2).trans c4⟩
noncomputable def runS (c : Cfg) (s : Sta) (l : List Opr) : Sta := l.foldl (stepS c) s
theorem runS_snoc (c : Cfg) (s : Sta) (l : List Opr) (p : Opr) : runS c s (l ++ [p]) = stepS c (runS c s l) p := by simp [runS]
def sta0 (c : Cfg) : Sta := ⟨[], fun _ => [], fun _ => zeroC c⟩
theorem zero_getD (n j : Nat) : (List.replicate n (0 : Int)).getD j 0 = 0 := by
 rw [List.getD_eq_getElem?_getD, List.getElem?_replicate]; split <;> rfl
theorem lin0 (c : Cfg) : LinOk c (zeroC c) [] [] := by
 intro l hl
 exact ⟨by simp [zeroC], fun j hj => by rw [zeroC, zero_getD]; rfl⟩
theorem ab0 {c : Cfg} (R : c.Ok) {cs : Nat → Nat → List Int} (hz : ∀ h, h < 3 → cs (h + 1) = zeroC c) : AbOk c 1048576 0 [] (fun _ => []) cs := by
 refine ⟨by simp, by simp, fun h h3 => rfl, by simp, fun h h3 x hx => by simp at hx, fun h h3 l hl x hx => ?_, fun hm h h3 => ?_, fun hm h h3 => ⟨?_, by simp⟩⟩
 ·rw [hz h h3] at hx
  simp only [zeroC, List.mem_replicate] at hx
  omega
 ·rw [hz h h3]; exact lin0 c
 ·rw [hz h h3]; exact (lin0 c).cons R (by simp) (by simp)
theorem runS_ok {c : Cfg} (R : c.Ok) {cs : Nat → Nat → List Int} (hz : ∀ h, h < 3 → cs (h + 1) = zeroC c) (l : List Opr) : ∀ j, j ≤ l.length → AbOk c (1048576 * 2 ^ j) j (runS c ⟨[], fun _ => [], cs⟩ (l.take j)).K (runS c ⟨[], fun _ => [], cs⟩ (l.take j)).F (runS c ⟨[], fun _ => [], cs⟩ (l.take j)).cs
 | 0, _ => by simpa [runS] using ab0 R hz
 | j + 1, h => by
  have ih := runS_ok R hz l j (by omega)
  rw [List.take_succ_eq_append_getElem (show j < l.length by omega), runS_snoc]
  have hp : (1 : Int) ≤ 2 ^ j := by
   have h1 := Nat.one_le_two_pow (n := j)
   have h2 : ((2 ^ j : Nat) : Int) = 2 ^ j := by simp
   omega
  have := stepS_ok R ih (by omega) l[j]
  rw [Int.pow_succ]
  rw [show (1048576 : Int) * (2 ^ j * 2) = 2 * (1048576 * 2 ^ j) by omega]
  exact this
end Go.Proofs.YtbhppbeepmllaaaGreatDoor

namespace Go.Proofs.YtbhppbeepmllaaaGreatDoor
open Go.RowKit

theorem Brd.lowQ {w0 w w' : World} {bd ag mb n : Nat} {sd lb lcap : Nat → Nat} {vs : Nat → Nat → Lv} {c : Cfg} {K : List Nat} {F : Nat → List Int} {cs : Nat → Nat → List Int} {kv : Value} {fv : Nat → Value} (S : Brd w0.heap.size w bd ag mb n sd lb lcap vs c K F cs kv fv) (hb : Below w0.heap.size w0 w) (hu : Upd (fun k => w0.heap.size ≤ k) w w') : Below w0.heap.size w0 w' := below_upd hb hu (fun i _ hi => hi)
def ActOut (c : Cfg) (w : World) (l : List Opr) (bd : Nat) (w' : World) : Prop := ∃ (B0 ag mb : Nat) (sd lb lcap : Nat → Nat) (vs : Nat → Nat → Lv) (cs0 : Nat → Nat → List Int) (kv : Value) (fv : Nat → Value),
 (∀ h, h < 3 → cs0 (h + 1) = zeroC c) ∧ w.heap.size ≤ B0 ∧ Brd B0 w' bd ag mb 3 sd lb lcap vs c (runS c ⟨[], fun _ => [], cs0⟩ (l.take 25)).K (runS c ⟨[], fun _ => [], cs0⟩ (l.take 25)).F (runS c ⟨[], fun _ => [], cs0⟩ (l.take 25)).cs kv fv ∧ Below w.heap.size w w'
theorem gacted_any (c : Cfg) (R : c.Ok) (hs : c.s < 18446744073709551616) (m0 : Int) (v : Value) (l : List Opr) (hll : l.length ≤ 9223372036854775807) (w : World) (ht : Tab w) (hv : OpsAt w w.heap.size v l) :
  Calls Tryz.prog 12 #[.agg #[.int .i64 c.b, .int .i64 c.r, .int .i64 c.wd, .int .i64 m0, .int .u64 c.s], .int .i64 c.m, v] w fun e w' => ∃ bd, e = .returned (.pointer (some ⟨bd, 0, none⟩)) ∧ ActOut c w l bd w' := by
 obtain ⟨so, cap, hv1, _⟩ := id hv
 subst hv1
 have x0 : (w.alloc (.cells #[.int .i64 c.b, .int .i64 c.r, .int .i64 c.wd, .int .i64 m0, .int .u64 c.s] 24)).heap[w.heap.size]? = some (Obj.cells #[.int .i64 c.b, .int .i64 c.r, .int .i64 c.wd, .int .i64 m0, .int .u64 c.s] 24 (0, 0)) := heap_alloc_at _ rfl
 have kb : Below w.heap.size w (w.alloc (.cells #[.int .i64 c.b, .int .i64 c.r, .int .i64 c.wd, .int .i64 m0, .int .u64 c.s] 24)) := (Below.refl _ _).alloc (Nat.le_refl _) _
 have htw := ht.below kb ht.lt
 have hv2 := hv.below kb
 obtain ⟨W, hW⟩ : ∃ W, w.alloc (.cells #[.int .i64 c.b, .int .i64 c.r, .int .i64 c.wd, .int .i64 m0, .int .u64 c.s] 24) = W := ⟨_, rfl⟩
 rw [hW] at x0 kb htw hv2
 have q0 := cell_of_heap x0 0 _ rfl
 have q1 := cell_of_heap x0 1 _ rfl
 have q2 := cell_of_heap x0 2 _ rfl
 have q3 := cell_of_heap x0 3 _ rfl
 have q4 := cell_of_heap x0 4 _ rfl
 have HBR := Lib.hid (gbroad_any c R hs m0 W htw)
 have HV := Lib.hid (And.intro hv2 kb)
 clear x0 hv hv2 kb
 go_enter Tryz.func12, Tryz.ntmps12
 go_wp2_with fail
 clear hW q0 q1 q2 q3 q4
 refine HBR.out.mono ?_
 rintro e w1 ⟨bd, rfl, ag, mb, sd, lb, lcap, vs, cs0, kv0, fv0, S0, hz, hB0⟩
 have HZ := Lib.hid hz
 clear HBR hz
 go_wp2_with fail
 go_loopw [8] (fun i wr => ∃ (j : Nat) (kv : Value) (fv : Nat → Value), j ≤ l.length ∧ j ≤ 25 ∧ i = .int .i64 (j : Int) ∧ Brd W.heap.size wr bd ag mb 3 sd lb lcap vs c (runS c ⟨[], fun _ => [], cs0⟩ (l.take j)).K (runS c ⟨[], fun _ => [], cs0⟩ (l.take j)).F (runS c ⟨[], fun _ => [], cs0⟩ (l.take j)).cs kv fv ∧ Below W.heap.size W wr) (fun i _ => 26 - (intOf i).toNat)
 case atStart => exact ⟨0, kv0, fv0, by omega, by omega, rfl, S0, hB0⟩
 case round =>
  obtain ⟨j, kv, fv, hj1, hj2, rfl, S, hB⟩ := hrel
  by_cases hlt : j < l.length
  ·have c0 : decide ((j : Int) < l.length) = true := by simp; omega
   by_cases h25 : j < 25
   ·have c1 : decide ((j : Int) < 25) = true := by simp; omega
    obtain ⟨p, hp⟩ : ∃ p, l[j]? = some p := ⟨_, List.getElem?_eq_getElem hlt⟩
    obtain ⟨so2, cap2, hv3, HO⟩ := HV.out.1
    cases hv3
    obtain ⟨hpo, b, o, hso, hbl, y0, y1, y2, y3, y4⟩ := HO j p hp
    subst hso
    have kk := hB
    have hzz := HV.out.2.size
    have A := runS_ok R HZ.out l j hj1
    have hpow : (1 : Int) ≤ 2 ^ j := by
     have h1 := Nat.one_le_two_pow (n := j)
     have h2 : ((2 ^ j : Nat) : Int) = 2 ^ j := by simp
     omega
    have hpow2 : (2 : Int) ^ j ≤ 33554432 := by
     have h1 : 2 ^ j ≤ 2 ^ 25 := Nat.pow_le_pow_right (by decide) (by omega)
     have h2 : ((2 ^ j : Nat) : Int) = 2 ^ j := by simp
     omega
    have HD := Lib.hid (fun wr' (S : Brd W.heap.size wr' bd ag mb 3 sd lb lcap vs c _ _ _ kv fv) => does_any S R _ j A (by omega) (by omega) (by omega) p hpo)
    have r0 := (hB.cell (p := ⟨b, _, none⟩) (by dsimp only; omega)).trans y0
    have r1 := (hB.cell (p := ⟨b, _, none⟩) (by dsimp only; omega)).trans y1
    have r2 := (hB.cell (p := ⟨b, _, none⟩) (by dsimp only; omega)).trans y2
    have r3 := (hB.cell (p := ⟨b, _, none⟩) (by dsimp only; omega)).trans y3
    have r4 := (hB.cell (p := ⟨b, _, none⟩) (by dsimp only; omega)).trans y4
    have HR := Lib.hid (And.intro S (And.intro hB hp))
    obtain ⟨n, hn⟩ : ∃ n, l.length = n := ⟨_, rfl⟩
    rw [hn] at hll hlt c0 ⊢
    have HN := Lib.hid hn
    clear S hB kk y0 y1 y2 y3 y4 HO A hp hn
    go_wp2_with fail
    refine (HD.out _ HR.out.1).mono ?_
    rintro e w5 ⟨rfl, ⟨kv5, fv5, S5⟩, u5⟩
    have hB5 := HR.out.1.lowQ HR.out.2.1 u5
    have HR5 := Lib.hid (And.intro S5 hB5)
    clear S5 u5 hB5
    go_wp2_with fail
    go_roundw
    case rel =>
     have hn := HN.out
     have hp := HR.out.2.2
     have hj : j < l.length := by omega
     refine ⟨j + 1, kv5, fv5, by omega, by omega, by simp, ?_, HR5.out.2⟩
     have e : l[j] = p := by rw [List.getElem?_eq_getElem hj] at hp; exact Option.some.inj hp
     rw [List.take_succ_eq_append_getElem hj, runS_snoc, e]
     exact HR5.out.1
    case measure => simp [intOf]; omega
   ·obtain rfl : j = 25 := by omega
    have c1 : decide (((25 : Nat) : Int) < 25) = false := by decide
    have HF := Lib.hid (show ActOut c w l bd wr from ⟨W.heap.size, ag, mb, sd, lb, lcap, vs, cs0, kv, fv, HZ.out, HV.out.2.size, S, HV.out.2.trans (hB.mono HV.out.2.size)⟩)
    clear S hB
    go_wp2_with fail
    go_ret
    exact ⟨bd, rfl, HF.out⟩
  ·obtain rfl : j = l.length := by omega
   have c0 : decide ((l.length : Int) < l.length) = false := by simp
   have HF := Lib.hid (show ActOut c w l bd wr from ⟨W.heap.size, ag, mb, sd, lb, lcap, vs, cs0, kv, fv, HZ.out, HV.out.2.size, by rw [List.take_of_length_le (show l.length ≤ 25 by omega)]; rw [List.take_length] at S; exact S, HV.out.2.trans (hB.mono HV.out.2.size)⟩)
   clear S hB
   go_wp2_with fail
   go_ret
   exact ⟨bd, rfl, HF.out⟩
end Go.Proofs.YtbhppbeepmllaaaGreatDoor

namespace Go.Proofs.YtbhppbeepmllaaaGreatDoor
open Go.RowKit

variable {B0 : Nat} {w w' w1 : World} {bd ag mb n : Nat} {c : Cfg} {K : List Nat} {F : Nat → List Int} {kv : Value} {fv : Nat → Value}
def preL (c : Cfg) (level : Nat) : Nat := level % (c.b + 1)
def preK (c : Cfg) (K : List Nat) (index near : Nat) : Nat := if near % 2 = 1 ∧ 0 < K.length then K.getD (index % K.length) 0 else index % c.keys 0
theorem two_cells {U : World} {b : Nat} {u0 u1 : Value} {t : TypeId} (h : U.heap[b]? = some (Obj.cells #[u0, u1] t (0, 0))) (x y : Value) : ((U.setCell ⟨b, 0, none⟩ x).setCell ⟨b, 1, none⟩ y).heap[b]? = some (Obj.cells #[x, y] t (0, 0)) := by
 have h1 := heap_setCell_same _ b 0 _ _ x h
 have h2 := heap_setCell_same _ b 1 _ _ y h1
 simpa using h2
theorem gprefix_any (S : BdRow B0 w bd ag c K F kv fv) (R : c.Ok) (hK : ∀ k ∈ K, k < c.keys 0) (hKl : K.length ≤ 4000) (level index near : Nat) (h1 : level < 18446744073709551616) (h2 : index < 18446744073709551616) (h3 : near < 18446744073709551616) :
  Calls Tryz.prog 23 #[.pointer (some ⟨bd, 0, none⟩), .int .u64 (level : Int), .int .u64 (index : Int), .int .u64 (near : Int)] w fun e w' => e = .returned (.agg #[.int .i64 (preL c level : Int), .int .u64 ((preK c K index near / 2 ^ preL c level : Nat) : Int)]) ∧ Below w.heap.size w w' := by
 have hb1 := R.b1
 have hb2 := R.b2
 have kb : Below w.heap.size w (w.alloc (.cells #[.int .i64 0, .int .u64 0] 55)) := (Below.refl _ _).alloc (Nat.le_refl _) _
 have x0 : (w.alloc (.cells #[.int .i64 0, .int .u64 0] 55)).heap[w.heap.size]? = some (Obj.cells #[.int .i64 0, .int .u64 0] 55 (0, 0)) := heap_alloc_at _ rfl
 have S1 := S.below kb
 obtain ⟨W, hW⟩ : ∃ W, w.alloc (.cells #[.int .i64 0, .int .u64 0] 55) = W := ⟨_, rfl⟩
 rw [hW] at kb x0 S1
 have p1 := cell_of_heap S1.hd 1 _ rfl
 have HK := Lib.hid (gkey_any S1 R index h2)
 have hl : preL c level ≤ 59 := by have := Nat.mod_lt level (show 0 < c.b + 1 by omega); unfold preL; omega
 have hlv : preL c level = level % (c.b + 1) := rfl
 have hwl : wrap64 ((level : Int) % ((c.b : Int) + 1)) = (preL c level : Int) := by
  rw [show ((level : Int) % ((c.b : Int) + 1)) = ((level % (c.b + 1) : Nat) : Int) by simp]
  exact IntWalk.wrap64_in _ (by rw [← hlv]; omega)
 obtain ⟨L, hL⟩ : ∃ L, preL c level = L := ⟨_, rfl⟩
 rw [hL] at hwl hl ⊢
 clear hlv hL
 have HS := Lib.hid (And.intro S1 (And.intro kb x0))
 have ha := and1 near h3
 have lx := lt_of_block x0
 clear S S1 x0
 obtain ⟨pk, hpk0⟩ : ∃ pk, preK c K index near = pk := ⟨_, rfl⟩
 rw [hpk0]
 have HPK := Lib.hid hpk0
 clear hpk0
 go_enter Tryz.func23, Tryz.ntmps23
 go_wp2_with fail
 clear hW
 refine HK.out.mono ?_
 rintro e w1 ⟨rfl, hb⟩
 have S5 := HS.out.1.below hb
 have k5 := HS.out.2.1.trans (hb.mono HS.out.2.1.size)
 have x5 := (hb.block _ lx).trans HS.out.2.2
 have lx5 := lt_of_block x5
 have hkp : 0 < c.keys 0 := Nat.one_le_two_pow
 have hkl := R.keys_le' 0
 have hkm : index % c.keys 0 < c.keys 0 := Nat.mod_lt _ hkp
 have p6 := cell_of_heap S5.hd 6 _ rfl
 have fz : ∀ o, w1.frozen? ⟨w.heap.size, o, none⟩ = false := fun o => by simp [World.frozen?, x5]
 have y0 := cell_of_heap x5 0 _ rfl
 have y1 := cell_of_heap x5 1 _ rfl
 clear hb kb p1
 by_cases hn : near % 2 = 1
 ·have d1 : (((near : Int) % 2) == 1) = true := by simp; omega
  by_cases hk0 : 0 < K.length
  ·have hi : index % K.length < K.length := Nat.mod_lt _ hk0
   obtain ⟨g, cap, rfl, hc⟩ := S5.key hi
   have d2 : decide ((0 : Int) < K.length) = true := by simp; omega
   have hpk : preK c K index near = K.getD (index % K.length) 0 := by unfold preK; rw [if_pos ⟨hn, hk0⟩]
   have hkx : K.getD (index % K.length) 0 < c.keys 0 := by
    rw [List.getD_eq_getElem?_getD, List.getElem?_eq_getElem hi]; exact hK _ (List.getElem_mem hi)
   obtain ⟨x, hx⟩ : ∃ x, K.getD (index % K.length) 0 = x := ⟨_, rfl⟩
   rw [hx] at hc hkx hpk
   have HH := Lib.hid (And.intro (And.intro hpk k5) x5)
   obtain ⟨m, hm⟩ : ∃ m, K.length = m := ⟨_, rfl⟩
   rw [hm] at p6 hc hi hk0 hKl d2
   clear hpk hx S5 k5 x5 hn hm
   go_wp2_with fail
   go_quiet (fail)
   go_wp2_with fail
   have hx6 := two_cells (U := (w1.drewN nq)) (show (w1.drewN nq).heap[w.heap.size]? = _ from HH.out.2) (.int .i64 (L : Int)) (.int .u64 ((x : Int) / 2 ^ L))
   have k6 : Below w.heap.size w (((w1.drewN nq).setCell ⟨w.heap.size, 0, none⟩ (.int .i64 (L : Int))).setCell ⟨w.heap.size, 1, none⟩ (.int .u64 ((x : Int) / 2 ^ L))) := ((show Below w.heap.size w (w1.drewN nq) from below_drewN HH.out.1.2 _).setCell (p := ⟨w.heap.size, 0, none⟩) (Nat.le_refl _) _).setCell (p := ⟨w.heap.size, 1, none⟩) (Nat.le_refl _) _
   obtain ⟨V, hV⟩ : ∃ V, (((w1.drewN nq).setCell ⟨w.heap.size, 0, none⟩ (.int .i64 (L : Int))).setCell ⟨w.heap.size, 1, none⟩ (.int .u64 ((x : Int) / 2 ^ L))) = V := ⟨_, rfl⟩
   rw [hV] at hx6 k6 ⊢
   have r0 := cell_of_heap hx6 0 _ rfl
   have r1 := cell_of_heap hx6 1 _ rfl
   exact bodyPost_ret (v := .agg #[.int .i64 (L : Int), .int .u64 ((x : Int) / 2 ^ L)]) (by simp [results, Tryz.results23, go_sem, r0, r1]) rfl ⟨by rw [← HPK.out, HH.out.1.1]; simp, k6⟩
  ·obtain ⟨o, cap, rfl⟩ := S5.kform
   have hpk : preK c K index near = index % c.keys 0 := by unfold preK; rw [if_neg (by omega)]
   have d2 : decide ((0 : Int) < K.length) = false := decide_eq_false (by omega)
   have HH := Lib.hid (And.intro (And.intro hpk k5) x5)
   obtain ⟨m, hm⟩ : ∃ m, K.length = m := ⟨_, rfl⟩
   rw [hm] at p6 hKl d2 hk0
   clear hpk S5 k5 x5 hm
   go_wp2_with fail
   have hx6 := two_cells (U := w1) (show w1.heap[w.heap.size]? = _ from HH.out.2) (.int .i64 (L : Int)) (.int .u64 (((index : Int) % (c.keys 0 : Nat)) / 2 ^ L))
   have k6 : Below w.heap.size w ((w1.setCell ⟨w.heap.size, 0, none⟩ (.int .i64 (L : Int))).setCell ⟨w.heap.size, 1, none⟩ (.int .u64 (((index : Int) % (c.keys 0 : Nat)) / 2 ^ L))) := ((show Below w.heap.size w w1 from HH.out.1.2).setCell (p := ⟨w.heap.size, 0, none⟩) (Nat.le_refl _) _).setCell (p := ⟨w.heap.size, 1, none⟩) (Nat.le_refl _) _
   obtain ⟨V, hV⟩ : ∃ V, ((w1.setCell ⟨w.heap.size, 0, none⟩ (.int .i64 (L : Int))).setCell ⟨w.heap.size, 1, none⟩ (.int .u64 (((index : Int) % (c.keys 0 : Nat)) / 2 ^ L))) = V := ⟨_, rfl⟩
   rw [hV] at hx6 k6 ⊢
   have r0 := cell_of_heap hx6 0 _ rfl
   have r1 := cell_of_heap hx6 1 _ rfl
   exact bodyPost_ret (v := .agg #[.int .i64 (L : Int), .int .u64 (((index : Int) % (c.keys 0 : Nat)) / 2 ^ L)]) (by simp [results, Tryz.results23, go_sem, r0, r1]) rfl ⟨by rw [← HPK.out, HH.out.1.1]; simp, k6⟩
 ·have d1 : (((near : Int) % 2) == 1) = false := by
   have h0 : (near : Int) % 2 = 0 := by omega
   rw [h0]; rfl
  obtain ⟨o, cap, rfl⟩ := S5.kform
  have hpk : preK c K index near = index % c.keys 0 := by unfold preK; rw [if_neg (by omega)]
  have HH := Lib.hid (And.intro (And.intro hpk k5) x5)
  obtain ⟨m, hm⟩ : ∃ m, K.length = m := ⟨_, rfl⟩
  rw [hm] at p6 hKl
  clear hpk S5 k5 x5 hm
  go_wp2_with fail
  have hx6 := two_cells (U := w1) (show w1.heap[w.heap.size]? = _ from HH.out.2) (.int .i64 (L : Int)) (.int .u64 (((index : Int) % (c.keys 0 : Nat)) / 2 ^ L))
  have k6 : Below w.heap.size w ((w1.setCell ⟨w.heap.size, 0, none⟩ (.int .i64 (L : Int))).setCell ⟨w.heap.size, 1, none⟩ (.int .u64 (((index : Int) % (c.keys 0 : Nat)) / 2 ^ L))) := ((show Below w.heap.size w w1 from HH.out.1.2).setCell (p := ⟨w.heap.size, 0, none⟩) (Nat.le_refl _) _).setCell (p := ⟨w.heap.size, 1, none⟩) (Nat.le_refl _) _
  obtain ⟨V, hV⟩ : ∃ V, ((w1.setCell ⟨w.heap.size, 0, none⟩ (.int .i64 (L : Int))).setCell ⟨w.heap.size, 1, none⟩ (.int .u64 (((index : Int) % (c.keys 0 : Nat)) / 2 ^ L))) = V := ⟨_, rfl⟩
  rw [hV] at hx6 k6 ⊢
  have r0 := cell_of_heap hx6 0 _ rfl
  have r1 := cell_of_heap hx6 1 _ rfl
  exact bodyPost_ret (v := .agg #[.int .i64 (L : Int), .int .u64 (((index : Int) % (c.keys 0 : Nat)) / 2 ^ L)]) (by simp [results, Tryz.results23, go_sem, r0, r1]) rfl ⟨by rw [← HPK.out, HH.out.1.1]; simp, k6⟩
end Go.Proofs.YtbhppbeepmllaaaGreatDoor
