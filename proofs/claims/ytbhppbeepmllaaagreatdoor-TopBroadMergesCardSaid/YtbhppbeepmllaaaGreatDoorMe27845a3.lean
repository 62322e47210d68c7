import Derived.Test.YtbhppbeepmllaaaGreatDoorM2a04b598
import Derived.Deep.RegionWith
import Derived.LoopN
set_option linter.unusedVariables false
set_option linter.unusedSimpArgs false
namespace Go.Proofs.YtbhppbeepmllaaaGreatDoor
open Go.RowKit

theorem U_bits (o : BinOp) (a b : Int) : U (bits o .u64 a b) := by unfold bits; exact U_wrap _

theorem mul_ex (a b : Int) (h0 : 0 ≤ a) (h1 : a < 18446744073709551616) (h2 : 0 ≤ b) (h3 : b < 18446744073709551616) : ∃ v : Int, (∀ w,
  Calls Tryz.prog 140 #[.int .u64 a, .int .u64 b] w fun e w' => e = .returned (.int .u64 v) ∧ w = w') ∧ U v := by
 have hA := U_fold a
 have hB := U_fold b
 unfold U at hA hB
 obtain ⟨hi, lo, hm, hU, hL⟩ := mul64_ex (foldV a) (foldV b) hA.1 hA.2 hB.1 hB.2
 have HM := Lib.hid hm
 clear hm
 unfold U at hU hL
 have X1 := U_bits .or (IntKind.u64.wrap (hi * 8)) (lo / 2305843009213693952)
 have X2 := U_bits .and lo 2305843009213693951
 unfold U at X1 X2
 apply Exists.intro; apply And.intro
 ·intro w
  go_enter Tryz.func140, Tryz.ntmps140
  go_wp2_with fail
  refine (fold_any _ _ h0 h1).mono ?_
  rintro e w' ⟨rfl, rfl⟩
  go_wp2_with fail
  refine (fold_any _ _ h2 h3).mono ?_
  rintro e w' ⟨rfl, rfl⟩
  go_wp2_with fail
  refine (HM.out _).mono ?_
  rintro e w' ⟨rfl, rfl⟩
  go_wp2_with fail
  refine (add_any _ _ _ X1.1 X1.2 X2.1 X2.2).mono ?_
  rintro e w' ⟨rfl, rfl⟩
  go_wp2
  go_ret
  exact ⟨rfl, rfl⟩
 ·exact U_fold _

def stepsV : Array Value := #[.int .u64 30, .int .u64 13787848793156543929, .int .u64 27, .int .u64 10723151780598845931, .int .u64 31, .int .u64 1]
theorem steps_any (w : World) : Calls Tryz.prog 174 #[] w fun e w' => e = .returned (.agg stepsV) ∧ w' = w.alloc (.cells stepsV 307) := by
 go_enter Tryz.func174, Tryz.ntmps174
 go_wp2
 exact bodyPost_ret (v := .agg stepsV) (by simp [results, Tryz.results174, go_sem, stepsV]) rfl ⟨rfl, rfl⟩

theorem mix_ex (z : Int) (_h0 : 0 ≤ z) (_h1 : z < 18446744073709551616) : ∃ v : Int, (∀ w,
  Calls Tryz.prog 138 #[.int .u64 z] w fun e w' => e = .returned (.int .u64 v) ∧ Below w.heap.size w w') ∧ U v := by
 have i0 : ∀ w, (Instr.index 307 (.agg #[.int .u64 30, .int .u64 13787848793156543929, .int .u64 27, .int .u64 10723151780598845931, .int .u64 31, .int .u64 1]) (.int .i64 0)).run Tryz.prog w = .ok (.agg #[.int .u64 30, .int .u64 13787848793156543929]) w := fun _ => by kernel_rfl
 have i1 : ∀ w, (Instr.index 307 (.agg #[.int .u64 30, .int .u64 13787848793156543929, .int .u64 27, .int .u64 10723151780598845931, .int .u64 31, .int .u64 1]) (.int .i64 1)).run Tryz.prog w = .ok (.agg #[.int .u64 27, .int .u64 10723151780598845931]) w := fun _ => by kernel_rfl
 have i2 : ∀ w, (Instr.index 307 (.agg #[.int .u64 30, .int .u64 13787848793156543929, .int .u64 27, .int .u64 10723151780598845931, .int .u64 31, .int .u64 1]) (.int .i64 2)).run Tryz.prog w = .ok (.agg #[.int .u64 31, .int .u64 1]) w := fun _ => by kernel_rfl
 apply Exists.intro; apply And.intro
 ·intro w
  go_enter Tryz.func138, Tryz.ntmps138
  go_wp2_with fail
  refine (steps_any _).mono ?_
  rintro e w' ⟨rfl, rfl⟩
  unfold stepsV
  go_wp2
  refine wp_loop_rounds 4 ?_
  rw [rounds_succ]
  go_wp2
  rw [rounds_succ]
  go_wp2
  rw [rounds_succ]
  go_wp2
  rw [rounds_succ]
  go_wp2
  go_ret
  refine ⟨rfl, ?_⟩
  repeat (first | exact Below.refl _ _ | refine Below.alloc ?_ (by simp <;> omega) _ | refine Below.drew ?_)
 ·exact U_wrap _
end Go.Proofs.YtbhppbeepmllaaaGreatDoor

namespace Go.Proofs.YtbhppbeepmllaaaGreatDoor
open Go.RowKit

theorem bcell {W w1 : World} (hb : Below W.heap.size W w1) : (∀ b o, b < W.heap.size → w1.cell? ⟨b, o, none⟩ = W.cell? ⟨b, o, none⟩) ∧ (∀ b o, b < W.heap.size → w1.frozen? ⟨b, o, none⟩ = W.frozen? ⟨b, o, none⟩) :=
 ⟨fun b o h => hb.cell (p := ⟨b, o, none⟩) h, fun b o h => hb.frozen (p := ⟨b, o, none⟩) h⟩

structure RC (b r wd m s : Int) : Prop where
 b1 : 1 ≤ b
 b2 : b ≤ 59
 r1 : 1 ≤ r
 r2 : r ≤ 8
 w1 : 1 ≤ wd
 w2 : wd ≤ 128
 m1 : 1 ≤ m
 m2 : m ≤ 3
 s1 : 0 ≤ s
 s2 : s < 18446744073709551616

theorem draw_ex (s i : Int) (h0 : 0 ≤ s) (h1 : s < 18446744073709551616) (h2 : 0 ≤ i) (h3 : i < 18446744073709551616) : ∃ v : Int, (∀ w,
  Calls Tryz.prog 98 #[.int .u64 s, .int .u64 i] w fun e w' => e = .returned (.int .u64 v) ∧ Below w.heap.size w w') ∧ U v := by
 have X := U_wrap (s + IntKind.u64.wrap (IntKind.u64.wrap (i + 1) * 11400714819323198485))
 unfold U at X
 obtain ⟨v, hv, hU⟩ := mix_ex _ X.1 X.2
 have HV := Lib.hid hv
 clear hv
 refine ⟨v, fun w => ?_, hU⟩
 go_enter Tryz.func98, Tryz.ntmps98
 go_wp2_with fail
 refine (HV.out _).mono ?_
 rintro e w' ⟨rfl, hb⟩
 go_wp2
 go_ret
 exact ⟨rfl, hb⟩

theorem pair_ex (s l r : Int) (h0 : 0 ≤ s) (h1 : s < 18446744073709551616) (h2 : 0 ≤ l) (h3 : l ≤ 59) (h4 : 0 ≤ r) (h5 : r ≤ 7) : ∃ a b : Int, (∀ w,
  Calls Tryz.prog 66 #[.int .u64 s, .int .i64 l, .int .i64 r] w fun e w' => e = .returned (.tuple #[.int .u64 a, .int .u64 b]) ∧ Below w.heap.size w w') ∧ U a ∧ U b := by
 obtain ⟨v, hv, hU⟩ := draw_ex s (2 * (l * 8 + r)) h0 h1 (by omega) (by omega)
 obtain ⟨v2, hv2, hU2⟩ := draw_ex s (2 * (l * 8 + r) + 1) h0 h1 (by omega) (by omega)
 have HV := Lib.hid hv
 clear hv
 have HV2 := Lib.hid hv2
 clear hv2
 unfold U at hU hU2
 apply Exists.intro; apply Exists.intro; apply And.intro
 ·intro w
  go_enter Tryz.func66, Tryz.ntmps66
  go_wp2_with fail
  refine (HV.out _).mono ?_
  rintro e w1 ⟨rfl, hb⟩
  go_wp2_with fail
  refine (HV2.out _).mono ?_
  rintro e w2 ⟨rfl, hb2⟩
  go_wp2
  go_ret2
  exact ⟨rfl, hb.trans (hb2.mono hb.size)⟩
 ·unfold U; omega

theorem quiet_eq {P : Program} {f : FuncId} {args : Array Value} {w : World} {n : Nat} {v : Value}
  (h : Calls P f args (w.drewN n) fun e w' => e = .returned v ∧ w.drewN n = w') : Calls P f args (w.drewN n) fun e w'' => e = .returned v ∧ ∃ m, w'' = w.drewN m :=
 h.mono fun _ _ ⟨he, hm⟩ => ⟨he, n, hm.symm⟩
theorem below_drewN {B : Nat} {a w : World} (h : Below B a w) (n : Nat) : Below B a (w.drewN n) := ⟨h.os, h.tape, h.output, h.size, h.block⟩

theorem line_ex (a b x : Int) (h0 : 0 ≤ a) (h1 : a < 18446744073709551616) (h2 : 0 ≤ b) (h3 : b < 18446744073709551616) (h4 : 0 ≤ x) (h5 : x < 18446744073709551616) : ∃ v : Int, (∀ w,
  Calls Tryz.prog 99 #[.agg #[.int .u64 a, .int .u64 b], .int .u64 x] w fun e w' => e = .returned (.int .u64 v) ∧ Below w.heap.size w w') ∧ U v := by
 obtain ⟨m, hm, hU⟩ := mul_ex a x h0 h1 h4 h5
 have HM := Lib.hid hm
 clear hm
 unfold U at hU
 apply Exists.intro; apply And.intro
 ·intro w
  go_enter Tryz.func99, Tryz.ntmps99
  go_wp2_with fail
  go_quiet (first | (go_at_call 140; exact quiet_eq (HM.out _)) | (go_at_call 139; exact quiet_eq (add_any _ _ _ hU.1 hU.2 h2 h3)))
  go_wp2
  go_ret
  refine ⟨rfl, ?_⟩
  exact below_drewN ((Below.refl _ _).alloc (Nat.le_refl _) _) _
 ·exact U_fold _
end Go.Proofs.YtbhppbeepmllaaaGreatDoor
