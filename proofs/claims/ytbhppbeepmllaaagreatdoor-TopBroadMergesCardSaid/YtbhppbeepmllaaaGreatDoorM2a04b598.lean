import Derived.WalkKit
import Derived.WalkLawsBesides
import Derived.WalkSpells
import Derived.Deep.QuietTactic
import Derived.BigQuiet
import Derived.Lib.Hide
import Derived.Test.YtbhppbeepmllaaaGreatDoorProg
set_option linter.unusedVariables false
set_option linter.unusedSimpArgs false
namespace Go.Proofs.YtbhppbeepmllaaaGreatDoor
open Go.RowKit

def U (x : Int) : Prop := 0 ≤ x ∧ x < 18446744073709551616
theorem U_wrap (x : Int) : U (IntKind.u64.wrap x) := by unfold U; rw [IntKind.wrap_u64]; omega
theorem ret_int {k : IntKind} {a b : Int} (h : a = b) : Ending.returned (.int k a) = .returned (.int k b) := by rw [h]

def foldS (x : Int) : Int := IntKind.u64.wrap (bits BinOp.and IntKind.u64 x 2305843009213693951 + x / 2305843009213693952)
def foldV (x : Int) : Int := if 2305843009213693951 ≤ foldS x then IntKind.u64.wrap (foldS x - 2305843009213693951) else foldS x
theorem U_fold (x : Int) : U (foldV x) := by unfold foldV foldS; split <;> exact U_wrap _

theorem fold_any (x : Int) (w : World) (_h0 : 0 ≤ x) (_h1 : x < 18446744073709551616) : Calls Tryz.prog 175 #[.int .u64 x] w fun e w' => e = .returned (.int .u64 (foldV x)) ∧ w = w' := by
 by_cases hc : 2305843009213693951 ≤ foldS x
 ·have hv : foldV x = IntKind.u64.wrap (foldS x - 2305843009213693951) := by unfold foldV; rw [if_pos hc]
  have HV := Lib.hid hv; clear hv
  unfold foldS at hc HV
  go_enter Tryz.func175, Tryz.ntmps175
  go_wp2
  go_ret
  exact ⟨ret_int HV.out.symm, rfl⟩
 ·have hv : foldV x = foldS x := by unfold foldV; rw [if_neg hc]
  have HV := Lib.hid hv; clear hv
  unfold foldS at hc HV
  go_enter Tryz.func175, Tryz.ntmps175
  go_wp2
  go_ret
  exact ⟨ret_int HV.out.symm, rfl⟩

def addV (a b : Int) : Int := foldV (IntKind.u64.wrap (foldV a + foldV b))
theorem add_any (a b : Int) (w : World) (h0 : 0 ≤ a) (h1 : a < 18446744073709551616) (h2 : 0 ≤ b) (h3 : b < 18446744073709551616) :
  Calls Tryz.prog 139 #[.int .u64 a, .int .u64 b] w fun e w' => e = .returned (.int .u64 (addV a b)) ∧ w = w' := by
 have hA := U_fold a
 have hB := U_fold b
 have hS := U_wrap (foldV a + foldV b)
 unfold U at hA hB hS
 go_enter Tryz.func139, Tryz.ntmps139
 go_wp2_with fail
 refine (fold_any _ _ (by omega) (by omega)).mono ?_
 rintro e w' ⟨rfl, rfl⟩
 go_wp2_with fail
 refine (fold_any _ _ (by omega) (by omega)).mono ?_
 rintro e w' ⟨rfl, rfl⟩
 go_wp2_with fail
 refine (fold_any _ _ hS.1 hS.2).mono ?_
 rintro e w' ⟨rfl, rfl⟩
 go_wp2
 go_ret
 exact ⟨rfl, rfl⟩

theorem mul64_ex (a b : Int) (_h0 : 0 ≤ a) (_h1 : a < 18446744073709551616) (_h2 : 0 ≤ b) (_h3 : b < 18446744073709551616) : ∃ hi lo : Int, (∀ w,
  Calls Tryz.prog 176 #[.int .u64 a, .int .u64 b] w fun e w' => e = .returned (.tuple #[.int .u64 hi, .int .u64 lo]) ∧ w = w') ∧ U hi ∧ U lo := by
 apply Exists.intro; apply Exists.intro; apply And.intro
 ·intro w
  go_enter Tryz.func176, Tryz.ntmps176
  go_wp2
  go_ret2
  exact ⟨rfl, rfl⟩
 ·exact ⟨U_wrap _, U_wrap _⟩
end Go.Proofs.YtbhppbeepmllaaaGreatDoor
