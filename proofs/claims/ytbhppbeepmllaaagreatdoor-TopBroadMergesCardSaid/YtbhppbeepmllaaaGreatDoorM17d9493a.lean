import Derived.Test.YtbhppbeepmllaaaGreatDoorMda3ae57a
import Derived.Laws.Externs
import Derived.Test.YtbhppbeepmllaaaGreatDoorM53ffddcf
set_option linter.unusedVariables false
set_option linter.unusedSimpArgs false
set_option maxRecDepth 100000
namespace Go.Proofs.YtbhppbeepmllaaaGreatDoor
open Go.RowKit

theorem run_add227 (x y c : Int) (hx : 0 ≤ x) (hy : 0 ≤ y) (hc0 : 0 ≤ c) (hc : c ≤ 1) (w : World) :
  (callFunc 227 #[.int .u64 x, .int .u64 y, .int .u64 c]).run Tryz.prog w = .ok (.value (.tuple #[.int .u64 ((x + y + c) % 18446744073709551616), .int .u64 ((x + y + c) / 18446744073709551616)])) w := by
 rw [run_callFunc_extern Tryz.func227 (by kernel_rfl) (by kernel_rfl) (by kernel_rfl) (e := add64Entry) (by kernel_rfl), run_add64 x y c hx hy hc0 hc]
 simp only [Result.andThen]

def sub64E : Array Value → Sem Value := fun args => do
 let (x, y, b) ← Extern.MathBitsCarry.three "Sub64" args
 pure (Extern.MathBitsCarry.pair ((x + Extern.MathBitsCarry.m64 - y - b) % Extern.MathBitsCarry.m64) (if x < y + b then 1 else 0))

theorem run_sub64N (x y b : Nat) (hb : b ≤ 1) (w : World) :
  (sub64E #[.int .u64 x, .int .u64 y, .int .u64 b]).run Tryz.prog w =
   .ok (.tuple #[.int .u64 (((x + 18446744073709551616 - y - b) % 18446744073709551616 : Nat) : Int), .int .u64 ((if x < y + b then 1 else 0 : Nat) : Int)]) w := by
 have : b = 0 ∨ b = 1 := by omega
 rcases this with rfl | rfl <;> rfl

theorem run_sub258 (x y b : Int) (hx : 0 ≤ x) (hy : 0 ≤ y) (hy2 : y < 18446744073709551616) (hc0 : 0 ≤ b) (hc : b ≤ 1) (w : World) :
  (callFunc 258 #[.int .u64 x, .int .u64 y, .int .u64 b]).run Tryz.prog w = .ok (.value (.tuple #[.int .u64 ((x + 18446744073709551616 - y - b) % 18446744073709551616), .int .u64 (if x < y + b then 1 else 0)])) w := by
 obtain ⟨x, rfl⟩ := Int.eq_ofNat_of_zero_le hx
 obtain ⟨y, rfl⟩ := Int.eq_ofNat_of_zero_le hy
 obtain ⟨b, rfl⟩ := Int.eq_ofNat_of_zero_le hc0
 rw [run_callFunc_extern Tryz.func258 (by kernel_rfl) (by kernel_rfl) (by kernel_rfl) (e := sub64E) (by kernel_rfl), run_sub64N x y b (by omega)]
 simp only [Result.andThen]
 have e1 : (((x + 18446744073709551616 - y - b) % 18446744073709551616 : Nat) : Int) = ((x : Int) + 18446744073709551616 - y - b) % 18446744073709551616 := by omega
 have e2 : ((if x < y + b then 1 else 0 : Nat) : Int) = if (x : Int) < y + b then 1 else 0 := by split <;> split <;> omega
 rw [e1, e2]

def wv (n : Int) : Value := if n < 0 then .agg #[.int .i64 (-1), .int .u64 (n + 18446744073709551616)] else .agg #[.int .i64 0, .int .u64 n]
theorem wv_neg {n : Int} (h : n < 0) : wv n = .agg #[.int .i64 (-1), .int .u64 (n + 18446744073709551616)] := by unfold wv; rw [if_pos h]
theorem wv_pos {n : Int} (h : 0 ≤ n) : wv n = .agg #[.int .i64 0, .int .u64 n] := by unfold wv; rw [if_neg (by omega)]

theorem wadd_pp (a b : Int) (w : World) (h0 : -4611686018427387904 ≤ a) (h1 : a ≤ 4611686018427387904) (h2 : -4611686018427387904 ≤ b) (h3 : b ≤ 4611686018427387904) (ha : 0 ≤ a) (hb : 0 ≤ b) :
  Calls Tryz.prog 195 #[.agg #[.int .i64 0, .int .u64 a], .agg #[.int .i64 0, .int .u64 b]] w fun e w' => e = .returned (.tuple #[.agg #[.int .i64 0, .int .u64 (a + b)], .bool true]) ∧ Below w.heap.size w w' := by
 have k1 := run_add227 a b 0 (by omega) (by omega) (by omega) (by omega)
 rw [show (a + b + 0) % 18446744073709551616 = a + b by omega, show (a + b + 0) / 18446744073709551616 = 0 by omega] at k1
 have k2 := run_add227 0 0 0 (by omega) (by omega) (by omega) (by omega)
 rw [show ((0 : Int) + 0 + 0) % 18446744073709551616 = 0 by omega, show ((0 : Int) + 0 + 0) / 18446744073709551616 = 0 by omega] at k2
 have u1 : IntKind.u64.wrap (-1) = 18446744073709551615 := by rw [IntKind.wrap_u64]; omega
 have u2 : wrap64 18446744073709551615 = -1 := by unfold wrap64; omega
 have u3 : IntKind.i64.wrap 18446744073709551615 = -1 := by rw [IntKind.wrap_i64]; omega
 go_enter Tryz.func195, Tryz.ntmps195
 go_wp2
 exact bodyPost_ret (v := .tuple #[.agg #[.int .i64 0, .int .u64 (a + b)], .bool true]) (by simp [results, Tryz.results195, go_sem]) rfl ⟨rfl, by repeat (first | exact Below.refl _ _ | refine Below.alloc ?_ (by simp <;> omega) _ | refine Below.drew ?_)⟩

theorem wadd_nn (a b : Int) (w : World) (h0 : -4611686018427387904 ≤ a) (h1 : a ≤ 4611686018427387904) (h2 : -4611686018427387904 ≤ b) (h3 : b ≤ 4611686018427387904) (ha : a < 0) (hb : b < 0) :
  Calls Tryz.prog 195 #[.agg #[.int .i64 (-1), .int .u64 (a + 18446744073709551616)], .agg #[.int .i64 (-1), .int .u64 (b + 18446744073709551616)]] w fun e w' => e = .returned (.tuple #[.agg #[.int .i64 (-1), .int .u64 (a + b + 18446744073709551616)], .bool true]) ∧ Below w.heap.size w w' := by
 have k1 := run_add227 (a + 18446744073709551616) (b + 18446744073709551616) 0 (by omega) (by omega) (by omega) (by omega)
 rw [show ((a + 18446744073709551616) + (b + 18446744073709551616) + 0) % 18446744073709551616 = a + b + 18446744073709551616 by omega, show ((a + 18446744073709551616) + (b + 18446744073709551616) + 0) / 18446744073709551616 = 1 by omega] at k1
 have k2 := run_add227 18446744073709551615 18446744073709551615 1 (by omega) (by omega) (by omega) (by omega)
 rw [show ((18446744073709551615 : Int) + 18446744073709551615 + 1) % 18446744073709551616 = 18446744073709551615 by omega, show ((18446744073709551615 : Int) + 18446744073709551615 + 1) / 18446744073709551616 = 1 by omega] at k2
 have u1 : IntKind.u64.wrap (-1) = 18446744073709551615 := by rw [IntKind.wrap_u64]; omega
 have u2 : wrap64 18446744073709551615 = -1 := by unfold wrap64; omega
 have u3 : IntKind.i64.wrap 18446744073709551615 = -1 := by rw [IntKind.wrap_i64]; omega
 go_enter Tryz.func195, Tryz.ntmps195
 go_wp2
 exact bodyPost_ret (v := .tuple #[.agg #[.int .i64 (-1), .int .u64 (a + b + 18446744073709551616)], .bool true]) (by simp [results, Tryz.results195, go_sem]) rfl ⟨rfl, by repeat (first | exact Below.refl _ _ | refine Below.alloc ?_ (by simp <;> omega) _ | refine Below.drew ?_)⟩

theorem wadd_pnp (a b : Int) (w : World) (h0 : -4611686018427387904 ≤ a) (h1 : a ≤ 4611686018427387904) (h2 : -4611686018427387904 ≤ b) (h3 : b ≤ 4611686018427387904) (ha : 0 ≤ a) (hb : b < 0) (hs : 0 ≤ a + b) :
  Calls Tryz.prog 195 #[.agg #[.int .i64 0, .int .u64 a], .agg #[.int .i64 (-1), .int .u64 (b + 18446744073709551616)]] w fun e w' => e = .returned (.tuple #[.agg #[.int .i64 0, .int .u64 (a + b)], .bool true]) ∧ Below w.heap.size w w' := by
 have k1 := run_add227 a (b + 18446744073709551616) 0 (by omega) (by omega) (by omega) (by omega)
 rw [show (a + (b + 18446744073709551616) + 0) % 18446744073709551616 = a + b by omega, show (a + (b + 18446744073709551616) + 0) / 18446744073709551616 = 1 by omega] at k1
 have k2 := run_add227 0 18446744073709551615 1 (by omega) (by omega) (by omega) (by omega)
 rw [show ((0 : Int) + 18446744073709551615 + 1) % 18446744073709551616 = 0 by omega, show ((0 : Int) + 18446744073709551615 + 1) / 18446744073709551616 = 1 by omega] at k2
 have u1 : IntKind.u64.wrap (-1) = 18446744073709551615 := by rw [IntKind.wrap_u64]; omega
 have u2 : wrap64 18446744073709551615 = -1 := by unfold wrap64; omega
 have u3 : IntKind.i64.wrap 18446744073709551615 = -1 := by rw [IntKind.wrap_i64]; omega
 go_enter Tryz.func195, Tryz.ntmps195
 go_wp2
 exact bodyPost_ret (v := .tuple #[.agg #[.int .i64 0, .int .u64 (a + b)], .bool true]) (by simp [results, Tryz.results195, go_sem]) rfl ⟨rfl, by repeat (first | exact Below.refl _ _ | refine Below.alloc ?_ (by simp <;> omega) _ | refine Below.drew ?_)⟩

theorem wadd_pnn (a b : Int) (w : World) (h0 : -4611686018427387904 ≤ a) (h1 : a ≤ 4611686018427387904) (h2 : -4611686018427387904 ≤ b) (h3 : b ≤ 4611686018427387904) (ha : 0 ≤ a) (hb : b < 0) (hs : a + b < 0) :
  Calls Tryz.prog 195 #[.agg #[.int .i64 0, .int .u64 a], .agg #[.int .i64 (-1), .int .u64 (b + 18446744073709551616)]] w fun e w' => e = .returned (.tuple #[.agg #[.int .i64 (-1), .int .u64 (a + b + 18446744073709551616)], .bool true]) ∧ Below w.heap.size w w' := by
 have k1 := run_add227 a (b + 18446744073709551616) 0 (by omega) (by omega) (by omega) (by omega)
 rw [show (a + (b + 18446744073709551616) + 0) % 18446744073709551616 = a + b + 18446744073709551616 by omega, show (a + (b + 18446744073709551616) + 0) / 18446744073709551616 = 0 by omega] at k1
 have k2 := run_add227 0 18446744073709551615 0 (by omega) (by omega) (by omega) (by omega)
 rw [show ((0 : Int) + 18446744073709551615 + 0) % 18446744073709551616 = 18446744073709551615 by omega, show ((0 : Int) + 18446744073709551615 + 0) / 18446744073709551616 = 0 by omega] at k2
 have u1 : IntKind.u64.wrap (-1) = 18446744073709551615 := by rw [IntKind.wrap_u64]; omega
 have u2 : wrap64 18446744073709551615 = -1 := by unfold wrap64; omega
 have u3 : IntKind.i64.wrap 18446744073709551615 = -1 := by rw [IntKind.wrap_i64]; omega
 go_enter Tryz.func195, Tryz.ntmps195
 go_wp2
 exact bodyPost_ret (v := .tuple #[.agg #[.int .i64 (-1), .int .u64 (a + b + 18446744073709551616)], .bool true]) (by simp [results, Tryz.results195, go_sem]) rfl ⟨rfl, by repeat (first | exact Below.refl _ _ | refine Below.alloc ?_ (by simp <;> omega) _ | refine Below.drew ?_)⟩

theorem wadd_npp (a b : Int) (w : World) (h0 : -4611686018427387904 ≤ a) (h1 : a ≤ 4611686018427387904) (h2 : -4611686018427387904 ≤ b) (h3 : b ≤ 4611686018427387904) (ha : a < 0) (hb : 0 ≤ b) (hs : 0 ≤ a + b) :
  Calls Tryz.prog 195 #[.agg #[.int .i64 (-1), .int .u64 (a + 18446744073709551616)], .agg #[.int .i64 0, .int .u64 b]] w fun e w' => e = .returned (.tuple #[.agg #[.int .i64 0, .int .u64 (a + b)], .bool true]) ∧ Below w.heap.size w w' := by
 have k1 := run_add227 (a + 18446744073709551616) b 0 (by omega) (by omega) (by omega) (by omega)
 rw [show ((a + 18446744073709551616) + b + 0) % 18446744073709551616 = a + b by omega, show ((a + 18446744073709551616) + b + 0) / 18446744073709551616 = 1 by omega] at k1
 have k2 := run_add227 18446744073709551615 0 1 (by omega) (by omega) (by omega) (by omega)
 rw [show ((18446744073709551615 : Int) + 0 + 1) % 18446744073709551616 = 0 by omega, show ((18446744073709551615 : Int) + 0 + 1) / 18446744073709551616 = 1 by omega] at k2
 have u1 : IntKind.u64.wrap (-1) = 18446744073709551615 := by rw [IntKind.wrap_u64]; omega
 have u2 : wrap64 18446744073709551615 = -1 := by unfold wrap64; omega
 have u3 : IntKind.i64.wrap 18446744073709551615 = -1 := by rw [IntKind.wrap_i64]; omega
 go_enter Tryz.func195, Tryz.ntmps195
 go_wp2
 exact bodyPost_ret (v := .tuple #[.agg #[.int .i64 0, .int .u64 (a + b)], .bool true]) (by simp [results, Tryz.results195, go_sem]) rfl ⟨rfl, by repeat (first | exact Below.refl _ _ | refine Below.alloc ?_ (by simp <;> omega) _ | refine Below.drew ?_)⟩

theorem wadd_npn (a b : Int) (w : World) (h0 : -4611686018427387904 ≤ a) (h1 : a ≤ 4611686018427387904) (h2 : -4611686018427387904 ≤ b) (h3 : b ≤ 4611686018427387904) (ha : a < 0) (hb : 0 ≤ b) (hs : a + b < 0) :
  Calls Tryz.prog 195 #[.agg #[.int .i64 (-1), .int .u64 (a + 18446744073709551616)], .agg #[.int .i64 0, .int .u64 b]] w fun e w' => e = .returned (.tuple #[.agg #[.int .i64 (-1), .int .u64 (a + b + 18446744073709551616)], .bool true]) ∧ Below w.heap.size w w' := by
 have k1 := run_add227 (a + 18446744073709551616) b 0 (by omega) (by omega) (by omega) (by omega)
 rw [show ((a + 18446744073709551616) + b + 0) % 18446744073709551616 = a + b + 18446744073709551616 by omega, show ((a + 18446744073709551616) + b + 0) / 18446744073709551616 = 0 by omega] at k1
 have k2 := run_add227 18446744073709551615 0 0 (by omega) (by omega) (by omega) (by omega)
 rw [show ((18446744073709551615 : Int) + 0 + 0) % 18446744073709551616 = 18446744073709551615 by omega, show ((18446744073709551615 : Int) + 0 + 0) / 18446744073709551616 = 0 by omega] at k2
 have u1 : IntKind.u64.wrap (-1) = 18446744073709551615 := by rw [IntKind.wrap_u64]; omega
 have u2 : wrap64 18446744073709551615 = -1 := by unfold wrap64; omega
 have u3 : IntKind.i64.wrap 18446744073709551615 = -1 := by rw [IntKind.wrap_i64]; omega
 go_enter Tryz.func195, Tryz.ntmps195
 go_wp2
 exact bodyPost_ret (v := .tuple #[.agg #[.int .i64 (-1), .int .u64 (a + b + 18446744073709551616)], .bool true]) (by simp [results, Tryz.results195, go_sem]) rfl ⟨rfl, by repeat (first | exact Below.refl _ _ | refine Below.alloc ?_ (by simp <;> omega) _ | refine Below.drew ?_)⟩

theorem wadd_any (a b : Int) (w : World) (h0 : -4611686018427387904 ≤ a) (h1 : a ≤ 4611686018427387904) (h2 : -4611686018427387904 ≤ b) (h3 : b ≤ 4611686018427387904) :
  Calls Tryz.prog 195 #[wv a, wv b] w fun e w' => e = .returned (.tuple #[wv (a + b), .bool true]) ∧ Below w.heap.size w w' := by
 by_cases ha : 0 ≤ a <;> by_cases hb : 0 ≤ b <;> by_cases hs : 0 ≤ a + b
 ·rw [wv_pos ha, wv_pos hb, wv_pos hs]; exact wadd_pp a b w h0 h1 h2 h3 ha hb
 ·omega
 ·rw [wv_pos ha, wv_neg (n := b) (by omega), wv_pos hs]; exact wadd_pnp a b w h0 h1 h2 h3 ha (by omega) hs
 ·rw [wv_pos ha, wv_neg (n := b) (by omega), wv_neg (n := a + b) (by omega)]; exact wadd_pnn a b w h0 h1 h2 h3 ha (by omega) (by omega)
 ·rw [wv_neg (n := a) (by omega), wv_pos hb, wv_pos hs]; exact wadd_npp a b w h0 h1 h2 h3 (by omega) hb hs
 ·rw [wv_neg (n := a) (by omega), wv_pos hb, wv_neg (n := a + b) (by omega)]; exact wadd_npn a b w h0 h1 h2 h3 (by omega) hb (by omega)
 ·omega
 ·rw [wv_neg (n := a) (by omega), wv_neg (n := b) (by omega), wv_neg (n := a + b) (by omega)]; exact wadd_nn a b w h0 h1 h2 h3 (by omega) (by omega)
end Go.Proofs.YtbhppbeepmllaaaGreatDoor

namespace Go.Proofs.YtbhppbeepmllaaaGreatDoor
open Go.RowKit

theorem wof_any (n : Int) (w : World) (h0 : -9223372036854775808 ≤ n) (h1 : n ≤ 9223372036854775807) :
  Calls Tryz.prog 196 #[.int .i64 n] w fun e w' => e = .returned (wv n) ∧ Below w.heap.size w w' := by
 by_cases hn : n < 0
 ·rw [wv_neg hn]
  have u1 : IntKind.u64.wrap n = n + 18446744073709551616 := by rw [IntKind.wrap_u64]; omega
  have u2 : n / 9223372036854775808 = -1 := by omega
  go_enter Tryz.func196, Tryz.ntmps196
  go_wp2
  exact bodyPost_ret (v := .agg #[.int .i64 (-1), .int .u64 (n + 18446744073709551616)]) (by simp [results, Tryz.results196, go_sem]) rfl ⟨rfl, by repeat (first | exact Below.refl _ _ | refine Below.alloc ?_ (by simp <;> omega) _ | refine Below.drew ?_)⟩
 ·have hn0 : 0 ≤ n := by omega
  rw [wv_pos hn0]
  have u2 : n / 9223372036854775808 = 0 := by omega
  go_enter Tryz.func196, Tryz.ntmps196
  go_wp2
  exact bodyPost_ret (v := .agg #[.int .i64 0, .int .u64 n]) (by simp [results, Tryz.results196, go_sem]) rfl ⟨rfl, by repeat (first | exact Below.refl _ _ | refine Below.alloc ?_ (by simp <;> omega) _ | refine Below.drew ?_)⟩

theorem wint_any (n : Int) (w : World) (h0 : -9223372036854775808 ≤ n) (h1 : n ≤ 9223372036854775807) :
  Calls Tryz.prog 197 #[wv n] w fun e w' => e = .returned (.tuple #[.int .i64 n, .bool true]) ∧ Below w.heap.size w w' := by
 by_cases hn : n < 0
 ·have e0 := wv_neg hn
  have hof := fun w => wof_any n w h0 h1
  simp only [e0] at hof
  have HO := Lib.hid hof; clear hof
  rw [e0]
  clear e0
  have u1 : IntKind.i64.wrap (n + 18446744073709551616) = n := by rw [IntKind.wrap_i64]; omega
  have q0 := fun k : After (w.heap.size + 1) (w.alloc (.cells #[.int .i64 (-1), .int .u64 (n + 18446744073709551616)] 188)) => k.cell (b := w.heap.size) (o := 0) (v := .int .i64 (-1)) (by omega) (by go_simp)
  have q1 := fun k : After (w.heap.size + 1) (w.alloc (.cells #[.int .i64 (-1), .int .u64 (n + 18446744073709551616)] 188)) => k.cell (b := w.heap.size) (o := 1) (v := .int .u64 (n + 18446744073709551616)) (by omega) (by go_simp)
  go_enter Tryz.func197, Tryz.ntmps197
  go_wp2_with fail
  refine wp_region_after (w.heap.size + 1) (by kernel_rfl) (by kernel_rfl) ?_
  repeat (go_big_quiet_step ((go_at_call 196; exact after_of (by simp) _ (HO.out _))))
  refine wpQuiet_nil ?_
  intro k
  go_wp2
  go_ret2
  exact ⟨rfl, below_alloc (k.h.mono (by simp))⟩
 ·have hn0 : 0 ≤ n := by omega
  have e0 := wv_pos hn0
  have hof := fun w => wof_any n w h0 h1
  simp only [e0] at hof
  have HO := Lib.hid hof; clear hof
  rw [e0]
  clear e0
  have u1 : IntKind.i64.wrap n = n := by rw [IntKind.wrap_i64]; omega
  have q0 := fun k : After (w.heap.size + 1) (w.alloc (.cells #[.int .i64 0, .int .u64 n] 188)) => k.cell (b := w.heap.size) (o := 0) (v := .int .i64 0) (by omega) (by go_simp)
  have q1 := fun k : After (w.heap.size + 1) (w.alloc (.cells #[.int .i64 0, .int .u64 n] 188)) => k.cell (b := w.heap.size) (o := 1) (v := .int .u64 n) (by omega) (by go_simp)
  go_enter Tryz.func197, Tryz.ntmps197
  go_wp2_with fail
  refine wp_region_after (w.heap.size + 1) (by kernel_rfl) (by kernel_rfl) ?_
  repeat (go_big_quiet_step ((go_at_call 196; exact after_of (by simp) _ (HO.out _))))
  refine wpQuiet_nil ?_
  intro k
  go_wp2
  go_ret2
  exact ⟨rfl, below_alloc (k.h.mono (by simp))⟩
end Go.Proofs.YtbhppbeepmllaaaGreatDoor

namespace Go.Proofs.YtbhppbeepmllaaaGreatDoor
open Go.RowKit

theorem wsub_ppp (a b : Int) (w : World) (h0 : -4611686018427387904 ≤ a) (h1 : a ≤ 4611686018427387904) (h2 : -4611686018427387904 ≤ b) (h3 : b ≤ 4611686018427387904) (ha : 0 ≤ a) (hb : 0 ≤ b) (hs : 0 ≤ a - b) :
  Calls Tryz.prog 228 #[.agg #[.int .i64 0, .int .u64 a], .agg #[.int .i64 0, .int .u64 b]] w fun e w' => e = .returned (.tuple #[.agg #[.int .i64 0, .int .u64 (a - b)], .bool true]) ∧ Below w.heap.size w w' := by
 have k1 : ∀ w, _ := run_sub258 a b 0 (by omega) (by omega) (by omega) (by omega) (by omega)
 rw [show (a + 18446744073709551616 - b - 0) % 18446744073709551616 = a - b by omega] at k1
 rw [if_neg (by omega)] at k1
 have k2 : ∀ w, _ := run_sub258 0 0 0 (by omega) (by omega) (by omega) (by omega) (by omega)
 rw [show ((0 : Int) + 18446744073709551616 - 0 - 0) % 18446744073709551616 = 0 by omega] at k2
 rw [if_neg (by omega)] at k2
 have u1 : IntKind.u64.wrap (-1) = 18446744073709551615 := by rw [IntKind.wrap_u64]; omega
 have u3 : IntKind.i64.wrap 18446744073709551615 = -1 := by rw [IntKind.wrap_i64]; omega
 go_enter Tryz.func228, Tryz.ntmps228
 go_wp2
 exact bodyPost_ret (v := .tuple #[.agg #[.int .i64 0, .int .u64 (a - b)], .bool true]) (by simp [results, Tryz.results228, go_sem]) rfl ⟨rfl, by repeat (first | exact Below.refl _ _ | refine Below.alloc ?_ (by simp <;> omega) _ | refine Below.drew ?_)⟩

theorem wsub_ppn (a b : Int) (w : World) (h0 : -4611686018427387904 ≤ a) (h1 : a ≤ 4611686018427387904) (h2 : -4611686018427387904 ≤ b) (h3 : b ≤ 4611686018427387904) (ha : 0 ≤ a) (hb : 0 ≤ b) (hs : a - b < 0) :
  Calls Tryz.prog 228 #[.agg #[.int .i64 0, .int .u64 a], .agg #[.int .i64 0, .int .u64 b]] w fun e w' => e = .returned (.tuple #[.agg #[.int .i64 (-1), .int .u64 (a - b + 18446744073709551616)], .bool true]) ∧ Below w.heap.size w w' := by
 have k1 : ∀ w, _ := run_sub258 a b 0 (by omega) (by omega) (by omega) (by omega) (by omega)
 rw [show (a + 18446744073709551616 - b - 0) % 18446744073709551616 = a - b + 18446744073709551616 by omega] at k1
 rw [if_pos (by omega)] at k1
 have k2 : ∀ w, _ := run_sub258 0 0 1 (by omega) (by omega) (by omega) (by omega) (by omega)
 rw [show ((0 : Int) + 18446744073709551616 - 0 - 1) % 18446744073709551616 = 18446744073709551615 by omega] at k2
 rw [if_pos (by omega)] at k2
 have u1 : IntKind.u64.wrap (-1) = 18446744073709551615 := by rw [IntKind.wrap_u64]; omega
 have u3 : IntKind.i64.wrap 18446744073709551615 = -1 := by rw [IntKind.wrap_i64]; omega
 go_enter Tryz.func228, Tryz.ntmps228
 go_wp2
 exact bodyPost_ret (v := .tuple #[.agg #[.int .i64 (-1), .int .u64 (a - b + 18446744073709551616)], .bool true]) (by simp [results, Tryz.results228, go_sem]) rfl ⟨rfl, by repeat (first | exact Below.refl _ _ | refine Below.alloc ?_ (by simp <;> omega) _ | refine Below.drew ?_)⟩

theorem wsub_nnp (a b : Int) (w : World) (h0 : -4611686018427387904 ≤ a) (h1 : a ≤ 4611686018427387904) (h2 : -4611686018427387904 ≤ b) (h3 : b ≤ 4611686018427387904) (ha : a < 0) (hb : b < 0) (hs : 0 ≤ a - b) :
  Calls Tryz.prog 228 #[.agg #[.int .i64 (-1), .int .u64 (a + 18446744073709551616)], .agg #[.int .i64 (-1), .int .u64 (b + 18446744073709551616)]] w fun e w' => e = .returned (.tuple #[.agg #[.int .i64 0, .int .u64 (a - b)], .bool true]) ∧ Below w.heap.size w w' := by
 have k1 : ∀ w, _ := run_sub258 (a + 18446744073709551616) (b + 18446744073709551616) 0 (by omega) (by omega) (by omega) (by omega) (by omega)
 rw [show ((a + 18446744073709551616) + 18446744073709551616 - (b + 18446744073709551616) - 0) % 18446744073709551616 = a - b by omega] at k1
 rw [if_neg (by omega)] at k1
 have k2 : ∀ w, _ := run_sub258 18446744073709551615 18446744073709551615 0 (by omega) (by omega) (by omega) (by omega) (by omega)
 rw [show ((18446744073709551615 : Int) + 18446744073709551616 - 18446744073709551615 - 0) % 18446744073709551616 = 0 by omega] at k2
 rw [if_neg (by omega)] at k2
 have u1 : IntKind.u64.wrap (-1) = 18446744073709551615 := by rw [IntKind.wrap_u64]; omega
 have u3 : IntKind.i64.wrap 18446744073709551615 = -1 := by rw [IntKind.wrap_i64]; omega
 go_enter Tryz.func228, Tryz.ntmps228
 go_wp2
 exact bodyPost_ret (v := .tuple #[.agg #[.int .i64 0, .int .u64 (a - b)], .bool true]) (by simp [results, Tryz.results228, go_sem]) rfl ⟨rfl, by repeat (first | exact Below.refl _ _ | refine Below.alloc ?_ (by simp <;> omega) _ | refine Below.drew ?_)⟩

theorem wsub_nnn (a b : Int) (w : World) (h0 : -4611686018427387904 ≤ a) (h1 : a ≤ 4611686018427387904) (h2 : -4611686018427387904 ≤ b) (h3 : b ≤ 4611686018427387904) (ha : a < 0) (hb : b < 0) (hs : a - b < 0) :
  Calls Tryz.prog 228 #[.agg #[.int .i64 (-1), .int .u64 (a + 18446744073709551616)], .agg #[.int .i64 (-1), .int .u64 (b + 18446744073709551616)]] w fun e w' => e = .returned (.tuple #[.agg #[.int .i64 (-1), .int .u64 (a - b + 18446744073709551616)], .bool true]) ∧ Below w.heap.size w w' := by
 have k1 : ∀ w, _ := run_sub258 (a + 18446744073709551616) (b + 18446744073709551616) 0 (by omega) (by omega) (by omega) (by omega) (by omega)
 rw [show ((a + 18446744073709551616) + 18446744073709551616 - (b + 18446744073709551616) - 0) % 18446744073709551616 = a - b + 18446744073709551616 by omega] at k1
 rw [if_pos (by omega)] at k1
 have k2 : ∀ w, _ := run_sub258 18446744073709551615 18446744073709551615 1 (by omega) (by omega) (by omega) (by omega) (by omega)
 rw [show ((18446744073709551615 : Int) + 18446744073709551616 - 18446744073709551615 - 1) % 18446744073709551616 = 18446744073709551615 by omega] at k2
 rw [if_pos (by omega)] at k2
 have u1 : IntKind.u64.wrap (-1) = 18446744073709551615 := by rw [IntKind.wrap_u64]; omega
 have u3 : IntKind.i64.wrap 18446744073709551615 = -1 := by rw [IntKind.wrap_i64]; omega
 go_enter Tryz.func228, Tryz.ntmps228
 go_wp2
 exact bodyPost_ret (v := .tuple #[.agg #[.int .i64 (-1), .int .u64 (a - b + 18446744073709551616)], .bool true]) (by simp [results, Tryz.results228, go_sem]) rfl ⟨rfl, by repeat (first | exact Below.refl _ _ | refine Below.alloc ?_ (by simp <;> omega) _ | refine Below.drew ?_)⟩

theorem wsub_pn (a b : Int) (w : World) (h0 : -4611686018427387904 ≤ a) (h1 : a ≤ 4611686018427387904) (h2 : -4611686018427387904 ≤ b) (h3 : b ≤ 4611686018427387904) (ha : 0 ≤ a) (hb : b < 0) :
  Calls Tryz.prog 228 #[.agg #[.int .i64 0, .int .u64 a], .agg #[.int .i64 (-1), .int .u64 (b + 18446744073709551616)]] w fun e w' => e = .returned (.tuple #[.agg #[.int .i64 0, .int .u64 (a - b)], .bool true]) ∧ Below w.heap.size w w' := by
 have k1 : ∀ w, _ := run_sub258 a (b + 18446744073709551616) 0 (by omega) (by omega) (by omega) (by omega) (by omega)
 rw [show (a + 18446744073709551616 - (b + 18446744073709551616) - 0) % 18446744073709551616 = a - b by omega] at k1
 rw [if_pos (by omega)] at k1
 have k2 : ∀ w, _ := run_sub258 0 18446744073709551615 1 (by omega) (by omega) (by omega) (by omega) (by omega)
 rw [show ((0 : Int) + 18446744073709551616 - 18446744073709551615 - 1) % 18446744073709551616 = 0 by omega] at k2
 rw [if_pos (by omega)] at k2
 have u1 : IntKind.u64.wrap (-1) = 18446744073709551615 := by rw [IntKind.wrap_u64]; omega
 have u3 : IntKind.i64.wrap 18446744073709551615 = -1 := by rw [IntKind.wrap_i64]; omega
 go_enter Tryz.func228, Tryz.ntmps228
 go_wp2
 exact bodyPost_ret (v := .tuple #[.agg #[.int .i64 0, .int .u64 (a - b)], .bool true]) (by simp [results, Tryz.results228, go_sem]) rfl ⟨rfl, by repeat (first | exact Below.refl _ _ | refine Below.alloc ?_ (by simp <;> omega) _ | refine Below.drew ?_)⟩

theorem wsub_np (a b : Int) (w : World) (h0 : -4611686018427387904 ≤ a) (h1 : a ≤ 4611686018427387904) (h2 : -4611686018427387904 ≤ b) (h3 : b ≤ 4611686018427387904) (ha : a < 0) (hb : 0 ≤ b) :
  Calls Tryz.prog 228 #[.agg #[.int .i64 (-1), .int .u64 (a + 18446744073709551616)], .agg #[.int .i64 0, .int .u64 b]] w fun e w' => e = .returned (.tuple #[.agg #[.int .i64 (-1), .int .u64 (a - b + 18446744073709551616)], .bool true]) ∧ Below w.heap.size w w' := by
 have k1 : ∀ w, _ := run_sub258 (a + 18446744073709551616) b 0 (by omega) (by omega) (by omega) (by omega) (by omega)
 rw [show ((a + 18446744073709551616) + 18446744073709551616 - b - 0) % 18446744073709551616 = a - b + 18446744073709551616 by omega] at k1
 rw [if_neg (by omega)] at k1
 have k2 : ∀ w, _ := run_sub258 18446744073709551615 0 0 (by omega) (by omega) (by omega) (by omega) (by omega)
 rw [show ((18446744073709551615 : Int) + 18446744073709551616 - 0 - 0) % 18446744073709551616 = 18446744073709551615 by omega] at k2
 rw [if_neg (by omega)] at k2
 have u1 : IntKind.u64.wrap (-1) = 18446744073709551615 := by rw [IntKind.wrap_u64]; omega
 have u3 : IntKind.i64.wrap 18446744073709551615 = -1 := by rw [IntKind.wrap_i64]; omega
 go_enter Tryz.func228, Tryz.ntmps228
 go_wp2
 exact bodyPost_ret (v := .tuple #[.agg #[.int .i64 (-1), .int .u64 (a - b + 18446744073709551616)], .bool true]) (by simp [results, Tryz.results228, go_sem]) rfl ⟨rfl, by repeat (first | exact Below.refl _ _ | refine Below.alloc ?_ (by simp <;> omega) _ | refine Below.drew ?_)⟩

theorem wsub_any (a b : Int) (w : World) (h0 : -4611686018427387904 ≤ a) (h1 : a ≤ 4611686018427387904) (h2 : -4611686018427387904 ≤ b) (h3 : b ≤ 4611686018427387904) :
  Calls Tryz.prog 228 #[wv a, wv b] w fun e w' => e = .returned (.tuple #[wv (a - b), .bool true]) ∧ Below w.heap.size w w' := by
 by_cases ha : 0 ≤ a <;> by_cases hb : 0 ≤ b <;> by_cases hs : 0 ≤ a - b
 ·rw [wv_pos ha, wv_pos hb, wv_pos hs]; exact wsub_ppp a b w h0 h1 h2 h3 ha hb hs
 ·rw [wv_pos ha, wv_pos hb, wv_neg (n := a - b) (by omega)]; exact wsub_ppn a b w h0 h1 h2 h3 ha hb (by omega)
 ·rw [wv_pos ha, wv_neg (n := b) (by omega), wv_pos hs]; exact wsub_pn a b w h0 h1 h2 h3 ha (by omega)
 ·omega
 ·omega
 ·rw [wv_neg (n := a) (by omega), wv_pos hb, wv_neg (n := a - b) (by omega)]; exact wsub_np a b w h0 h1 h2 h3 (by omega) hb
 ·rw [wv_neg (n := a) (by omega), wv_neg (n := b) (by omega), wv_pos hs]; exact wsub_nnp a b w h0 h1 h2 h3 (by omega) (by omega) hs
 ·rw [wv_neg (n := a) (by omega), wv_neg (n := b) (by omega), wv_neg (n := a - b) (by omega)]; exact wsub_nnn a b w h0 h1 h2 h3 (by omega) (by omega) (by omega)

theorem wless_any (a b : Int) (w : World) (h0 : -4611686018427387904 ≤ a) (h1 : a ≤ 4611686018427387904) (h2 : -4611686018427387904 ≤ b) (h3 : b ≤ 4611686018427387904) :
  Calls Tryz.prog 234 #[wv a, wv b] w fun e w' => e = .returned (.bool (decide (a < b))) ∧ Below w.heap.size w w' := by
 by_cases ha : 0 ≤ a <;> by_cases hb : 0 ≤ b
 ·rw [wv_pos ha, wv_pos hb]
  go_enter Tryz.func234, Tryz.ntmps234
  go_wp2
  go_ret
  exact ⟨by simp, by repeat (first | exact Below.refl _ _ | refine Below.alloc ?_ (by simp <;> omega) _ | refine Below.drew ?_)⟩
 ·rw [wv_pos ha, wv_neg (n := b) (by omega)]
  have hd : decide (a < b) = false := by simp; omega
  rw [hd]
  clear hd
  go_enter Tryz.func234, Tryz.ntmps234
  go_wp2
  go_ret
  exact ⟨by simp, by repeat (first | exact Below.refl _ _ | refine Below.alloc ?_ (by simp <;> omega) _ | refine Below.drew ?_)⟩
 ·rw [wv_neg (n := a) (by omega), wv_pos hb]
  have hd : decide (a < b) = true := by simp; omega
  rw [hd]
  clear hd
  go_enter Tryz.func234, Tryz.ntmps234
  go_wp2
  go_ret
  exact ⟨by simp, by repeat (first | exact Below.refl _ _ | refine Below.alloc ?_ (by simp <;> omega) _ | refine Below.drew ?_)⟩
 ·rw [wv_neg (n := a) (by omega), wv_neg (n := b) (by omega)]
  go_enter Tryz.func234, Tryz.ntmps234
  go_wp2
  go_ret
  exact ⟨by simp, by repeat (first | exact Below.refl _ _ | refine Below.alloc ?_ (by simp <;> omega) _ | refine Below.drew ?_)⟩

theorem wminus_any (a b : Int) (w : World) (h0 : -2305843009213693952 ≤ a) (h1 : a ≤ 2305843009213693952) (h2 : -2305843009213693952 ≤ b) (h3 : b ≤ 2305843009213693952) :
  Calls Tryz.prog 198 #[.int .i64 a, .int .i64 b] w fun e w' => e = .returned (.tuple #[.int .i64 (a - b), .bool true]) ∧ Below w.heap.size w w' := by
 obtain ⟨ca, hca⟩ : ∃ h l, wv a = .agg #[.int .i64 h, .int .u64 l] := by unfold wv; split <;> exact ⟨_, _, rfl⟩
 obtain ⟨la, hca⟩ := hca
 obtain ⟨cb, hcb⟩ : ∃ h l, wv b = .agg #[.int .i64 h, .int .u64 l] := by unfold wv; split <;> exact ⟨_, _, rfl⟩
 obtain ⟨lb, hcb⟩ := hcb
 obtain ⟨cs, hcs⟩ : ∃ h l, wv (a - b) = .agg #[.int .i64 h, .int .u64 l] := by unfold wv; split <;> exact ⟨_, _, rfl⟩
 obtain ⟨ls, hcs⟩ := hcs
 have c1 := fun w => wof_any a w (by omega) (by omega)
 have c2 := fun w => wof_any b w (by omega) (by omega)
 have c3 := fun w => wsub_any a b w (by omega) (by omega) (by omega) (by omega)
 have c4 := fun w => wint_any (a - b) w (by omega) (by omega)
 simp only [hca, hcb, hcs] at c1 c2 c3 c4
 have C1 := Lib.hid c1; have C2 := Lib.hid c2; have C3 := Lib.hid c3; have C4 := Lib.hid c4
 clear c1 c2 c3 c4 hca hcb hcs
 go_enter Tryz.func198, Tryz.ntmps198
 go_wp2_with fail
 refine (C1.out _).mono ?_
 rintro e w1 ⟨rfl, hb1⟩
 go_wp2_with fail
 refine (C2.out _).mono ?_
 rintro e w2 ⟨rfl, hb2⟩
 go_wp2_with fail
 refine (C3.out _).mono ?_
 rintro e w3 ⟨rfl, hb3⟩
 go_wp2_with fail
 refine (C4.out _).mono ?_
 rintro e w4 ⟨rfl, hb4⟩
 go_wp2
 go_ret2
 have z1 := hb1.size
 have z2 := hb2.size
 have z3 := hb3.size
 exact ⟨rfl, ((hb1.trans (hb2.mono z1)).trans (hb3.mono (by omega))).trans ((below_alloc hb4).mono (by omega))⟩
end Go.Proofs.YtbhppbeepmllaaaGreatDoor

namespace Go.Proofs.YtbhppbeepmllaaaGreatDoor
open Go.RowKit

def wvh (n : Int) : Int := if n < 0 then -1 else 0
def wvl (n : Int) : Int := if n < 0 then n + 18446744073709551616 else n
theorem wv_eq (n : Int) : wv n = .agg #[.int .i64 (wvh n), .int .u64 (wvl n)] := by unfold wv wvh wvl; split <;> rfl

def sumI (l : List Int) : Int := l.foldl (· + ·) 0
theorem sumI_snoc (l : List Int) (x : Int) : sumI (l ++ [x]) = sumI l + x := by simp [sumI]

theorem ints_lt {w : World} {B g n cap : Nat} {e : TypeId} {xs : List Value} (h : w.ownsRow B e 1 (.slice (some ⟨g, 0, none⟩) n cap) n xs) : g < w.heap.size := (h.lt g rfl).2

theorem two_set {w : World} {b : Nat} {x y : Value} {t : TypeId} (h : w.heap[b]? = some (.cells #[x, y] t (0, 0))) (u v : Value) :
  ((w.setCell ⟨b, 0, none⟩ u).setCell ⟨b, 1, none⟩ v).heap[b]? = some (.cells #[u, v] t (0, 0)) := by
 have h1 := heap_setCell_same w b 0 _ t u h
 have h2 := heap_setCell_same _ b 1 _ t v h1
 simpa using h2

theorem wsum_any (xs : List Int) (g cap : Nat) (w : World) (hn : 0 < xs.length) (hm : xs.length ≤ 1000000) (hx : w.ownsRow 0 2 1 (.slice (some ⟨g, 0, none⟩) xs.length cap) xs.length (xs.map (Value.int .i64)))
  (hb : ∀ k, -2305843009213693952 ≤ sumI (xs.take k) ∧ sumI (xs.take k) ≤ 2305843009213693952) (he : ∀ x ∈ xs, -2305843009213693952 ≤ x ∧ x ≤ 2305843009213693952) :
  Calls Tryz.prog 161 #[.slice (some ⟨g, 0, none⟩) xs.length cap] w fun e w' => e = .returned (.tuple #[.int .i64 (sumI xs), .bool true]) ∧ Below w.heap.size w w' := by
 have hg := ints_lt hx
 have HB := Lib.hid hb; clear hb
 have HE := Lib.hid he; clear he
 go_enter Tryz.func161, Tryz.ntmps161
 go_wp2
 go_loopw [9] (fun i wr => ∃ k : Nat, k ≤ xs.length ∧ i = .int .i64 k ∧ wr.heap[w.heap.size]? = some (.cells #[.int .i64 (wvh (sumI (xs.take k))), .int .u64 (wvl (sumI (xs.take k)))] 188 (0, 0)) ∧ Below w.heap.size w wr) (fun i _ => xs.length - (intOf i).toNat)
 case atStart => exact ⟨0, by omega, rfl, by rw [heap_alloc_new]; simp [sumI, wvh, wvl], ((Below.refl _ _).alloc (Nat.le_refl _) _)⟩
 case round =>
  obtain ⟨k, hk, rfl, hT, hB⟩ := hrel
  by_cases hlt : k < xs.length
  ·obtain ⟨x, hxk⟩ : ∃ x, xs[k]? = some x := ⟨_, List.getElem?_eq_getElem hlt⟩
   have hcell : wr.cell? ⟨g, k, none⟩ = some (.int .i64 x) := by
    rw [hB.cell (p := ⟨g, k, none⟩) hg, hx.cellAt k (by omega)]; simp [hxk]
   have hsum : sumI (xs.take (k + 1)) = sumI (xs.take k) + x := by
    rw [List.take_add_one, hxk]; exact sumI_snoc _ _
   have hb1 := HB.out k
   have hb2 := HE.out x (List.mem_of_getElem? hxk)
   have hlT := lt_of_block hT
   have hc0 : wr.cell? ⟨w.heap.size, 0, none⟩ = some (.int .i64 (wvh (sumI (xs.take k)))) := by simp [World.cell?, hT]
   have hc1 : wr.cell? ⟨w.heap.size, 1, none⟩ = some (.int .u64 (wvl (sumI (xs.take k)))) := by simp [World.cell?, hT]
   have q0 := fun kk : After wr.heap.size wr => kk.cell hlT hc0
   have q1 := fun kk : After wr.heap.size wr => kk.cell hlT hc1
   have c1 := fun w => wof_any x w (by omega) (by omega)
   have c2 := fun w => wadd_any (sumI (xs.take k)) x w (by omega) (by omega) (by omega) (by omega)
   rw [← hsum] at c2
   simp only [wv_eq] at c1 c2
   have C1 := Lib.hid c1; have C2 := Lib.hid c2
   have HS := Lib.hid hsum
   clear c1 c2 hsum hxk
   go_wp2_with fail
   refine wp_region_mixA wr.heap.size [0, 1, 2, 3, 4, 5, 6] [7] (by kernel_rfl) (by kernel_rfl) rfl ?_
   simp only [opsAt, List.map_cons, List.map_nil, List.getElem?_toArray, List.getElem?_cons_zero, List.getElem?_cons_succ, Option.getD_some]
   repeat (go_big_quiet_step (first | (go_at_call 196; exact after_of (Nat.le_refl _) _ (C1.out _)) | (go_at_call 195; exact after_of (Nat.le_refl _) _ (C2.out _))))
   refine wpQuiet_nil ?_
   intro kk
   have r0 := q0 kk
   have r1 := q1 kk
   have hbl := (kk.h.block w.heap.size hlT).trans hT
   have hf0 : ∀ o, kk.w.frozen? ⟨w.heap.size, o, none⟩ = false := fun o => by simp [World.frozen?, hbl]
   have kB := kk.h
   clear q0 q1
   unfold calmQ
   go_wp2
   go_roundw
   case rel => exact ⟨k + 1, by omega, by go_num, two_set hbl _ _, ((hB.trans (kB.mono (by have := hB.size; omega))).setCell (Nat.le_refl _) _).setCell (Nat.le_refl _) _⟩
   case measure => simp [intOf]; omega
  ·obtain rfl : k = xs.length := by omega
   rw [List.take_length] at hT
   have hlT := lt_of_block hT
   have hc0 : wr.cell? ⟨w.heap.size, 0, none⟩ = some (.int .i64 (wvh (sumI xs))) := by simp [World.cell?, hT]
   have hc1 : wr.cell? ⟨w.heap.size, 1, none⟩ = some (.int .u64 (wvl (sumI xs))) := by simp [World.cell?, hT]
   have hb1 := HB.out xs.length
   rw [List.take_length] at hb1
   have c1 := fun w => wint_any (sumI xs) w (by omega) (by omega)
   simp only [wv_eq] at c1
   have C1 := Lib.hid c1
   clear c1
   go_wp2_with fail
   refine (C1.out _).mono ?_
   rintro e w1 ⟨rfl, hb⟩
   go_wp2
   go_ret2
   exact ⟨rfl, hB.trans (hb.mono hB.size)⟩

theorem wplus_any (a b : Int) (w : World) (h0 : -1152921504606846976 ≤ a) (h1 : a ≤ 1152921504606846976) (h2 : -1152921504606846976 ≤ b) (h3 : b ≤ 1152921504606846976) :
  Calls Tryz.prog 260 #[.int .i64 a, .int .i64 b] w fun e w' => e = .returned (.tuple #[.int .i64 (a + b), .bool true]) ∧ Below w.heap.size w w' := by
 have c1 := fun (w : World) (g : Nat) (hx : w.ownsRow 0 2 1 (.slice (some ⟨g, 0, none⟩) 2 2) 2 ([a, b].map (Value.int .i64))) => wsum_any [a, b] g 2 w (by simp) (by simp) hx (fun k => by
  match k with
  | 0 => simp [sumI]
  | 1 => simp [sumI]; omega
  | k + 2 => simp [sumI]; omega) (fun x hx => by simp at hx; omega)
 have hs : sumI [a, b] = a + b := by simp [sumI]
 rw [hs] at c1
 have C1 := Lib.hid c1
 clear c1 hs
 have ho : (w.alloc (.cells #[.int .i64 a, .int .i64 b] 2)).ownsRow 0 2 1 (.slice (some ⟨w.heap.size, 0, none⟩) 2 2) 2 ([a, b].map (Value.int .i64)) :=
  World.ownsRow_lit w #[.int .i64 a, .int .i64 b] 2 (Nat.zero_le _) (by simp [maxLen]) (by simp)
 go_enter Tryz.func260, Tryz.ntmps260
 go_wp2_with fail
 refine (C1.out _ _ ho).mono ?_
 rintro e w1 ⟨rfl, hb⟩
 go_wp2
 go_ret2
 exact ⟨rfl, below_alloc hb⟩
end Go.Proofs.YtbhppbeepmllaaaGreatDoor

namespace Go.Proofs.YtbhppbeepmllaaaGreatDoor
open Go.RowKit

abbrev i64s (l : List Int) : List Value := l.map (Value.int .i64)

structure GridOk (w : World) (g cb cap rows width : Nat) (cells : List Int) : Prop where
  hd : w.heap[g]? = some (.cells #[.int .i64 rows, .int .i64 width, .slice (some ⟨cb, 0, none⟩) cells.length cap] 351 (0, 0))
  row : w.ownsRow 0 2 1 (.slice (some ⟨cb, 0, none⟩) cells.length cap) cells.length (i64s cells)
  sz : cells.length = rows * width

theorem GridOk.ne {w : World} {g cb cap rows width : Nat} {cells : List Int} (h : GridOk w g cb cap rows width cells) : g ≠ cb := by
  intro e
  subst e
  rcases h.row.2 with ⟨h1, _⟩ | ⟨g', cap', cur, h1, _, h2, _⟩
  · simp at h1
  · simp at h1
    obtain ⟨rfl, _⟩ := h1
    have := h.hd.symm.trans h2
    simp at this

theorem GridOk.keep {w w' : World} {g cb cap rows width : Nat} {cells : List Int} (h : GridOk w g cb cap rows width cells)
    (h1 : w'.heap[g]? = w.heap[g]?) (h2 : w'.heap[cb]? = w.heap[cb]?) : GridOk w' g cb cap rows width cells := by
  refine ⟨h1.trans h.hd, ?_, h.sz⟩
  refine ⟨h.row.1, ?_⟩
  rcases h.row.2 with ⟨h3, _⟩ | ⟨g', cap', cur, h3, h4, h5, h6⟩
  · simp at h3
  · simp at h3
    obtain ⟨rfl, rfl⟩ := h3
    exact .inr ⟨cb, cap, cur, rfl, h4, h2.trans h5, h6⟩

theorem GridOk.lt {w : World} {g cb cap rows width : Nat} {cells : List Int} (h : GridOk w g cb cap rows width cells) : g < w.heap.size ∧ cb < w.heap.size :=
  ⟨lt_of_block h.hd, (h.row.lt cb rfl).2⟩

theorem GridOk.below {w w' : World} {B g cb cap rows width : Nat} {cells : List Int} (h : GridOk w g cb cap rows width cells) (hb : Below B w w') (h1 : g < B) (h2 : cb < B) : GridOk w' g cb cap rows width cells :=
  h.keep (hb.block g h1) (hb.block cb h2)

theorem GridOk.set {w : World} {g cb cap rows width : Nat} {cells : List Int} (h : GridOk w g cb cap rows width cells) (j : Nat) (x : Int) :
    GridOk (w.setCell ⟨cb, j, none⟩ (.int .i64 x)) g cb cap rows width (cells.set j x) := by
  have h1 := (h.row.stored j (.int .i64 x)).1
  refine ⟨?_, ?_, by simpa using h.sz⟩
  · rw [List.length_set]
    rw [heap_setCell_other w ⟨cb, j, none⟩ g _ (by simpa using h.ne)]
    exact h.hd
  · rw [List.length_set]
    simpa [i64s, List.map_set] using h1

theorem place_any (g cb cap rows width : Nat) (cells : List Int) (row col : Int) (w : World) (G : GridOk w g cb cap rows width cells)
   (h1 : 0 ≤ row) (h2 : row < rows) (h3 : 0 ≤ col) (h4 : col < width) (h5 : rows ≤ 8) (h6 : width ≤ 128) :
   Calls Tryz.prog 311 #[.pointer (some ⟨g, 0, none⟩), .int .i64 row, .int .i64 col] w fun e w' => e = .returned (.tuple #[.int .i64 (row * width + col), .bool true]) ∧ w = w' := by
  have c0 : w.cell? ⟨g, 0, none⟩ = some (.int .i64 rows) := by simp [World.cell?, G.hd]
  have c1 : w.cell? ⟨g, 1, none⟩ = some (.int .i64 width) := by simp [World.cell?, G.hd]
  have m0 : 0 ≤ row * width := Int.mul_nonneg h1 (by omega)
  have m1 : row * width ≤ 8 * 128 := Int.mul_le_mul (by omega) (by omega) (by omega) (by omega)
  go_enter Tryz.func311, Tryz.ntmps311
  go_wp2
  go_ret2
  exact ⟨rfl, rfl⟩

theorem idx_lt {rows width : Nat} {row col : Int} (h1 : 0 ≤ row) (h2 : row < rows) (h3 : 0 ≤ col) (h4 : col < width) : 0 ≤ row * width + col ∧ row * width + col < (rows * width : Nat) := by
  have m0 : 0 ≤ row * width := Int.mul_nonneg h1 (by omega)
  have m1 : (row + 1) * width ≤ rows * width := Int.mul_le_mul_of_nonneg_right (by omega) (by omega)
  rw [Int.add_mul, Int.one_mul] at m1
  rw [Int.natCast_mul]
  omega

theorem at_any (g cb cap rows width : Nat) (cells : List Int) (row col x : Int) (w : World) (G : GridOk w g cb cap rows width cells)
   (h1 : 0 ≤ row) (h2 : row < rows) (h3 : 0 ≤ col) (h4 : col < width) (h5 : rows ≤ 8) (h6 : width ≤ 128) (hx : cells[(row * width + col).toNat]? = some x) :
   Calls Tryz.prog 309 #[.pointer (some ⟨g, 0, none⟩), .int .i64 row, .int .i64 col] w fun e w' => e = .returned (.int .i64 x) ∧ w = w' := by
  have hp := place_any g cb cap rows width cells row col w G h1 h2 h3 h4 h5 h6
  obtain ⟨hi1, hi2⟩ := idx_lt h1 h2 h3 h4
  have hsz := G.sz
  have hc : w.cell? ⟨cb, (row * width + col).toNat, none⟩ = some (.int .i64 x) := by
    rw [G.row.cellAt _ (by omega)]
    simp [hx]
  have c2 : w.cell? ⟨g, 2, none⟩ = some (.slice (some ⟨cb, 0, none⟩) cells.length cap) := by simp [World.cell?, G.hd]
  rw [← hsz] at hi2
  have HP := Lib.hid hp
  clear hp hx hsz G
  generalize hj : row * width + col = j at *
  clear hj
  go_enter Tryz.func309, Tryz.ntmps309
  go_wp2_with fail
  refine HP.out.mono ?_
  rintro e w' ⟨rfl, rfl⟩
  go_wp2
  go_ret
  exact ⟨rfl, rfl⟩

theorem put_any (g cb cap rows width : Nat) (cells : List Int) (row col x : Int) (w : World) (G : GridOk w g cb cap rows width cells)
   (h1 : 0 ≤ row) (h2 : row < rows) (h3 : 0 ≤ col) (h4 : col < width) (h5 : rows ≤ 8) (h6 : width ≤ 128) :
   Calls Tryz.prog 310 #[.pointer (some ⟨g, 0, none⟩), .int .i64 row, .int .i64 col, .int .i64 x] w fun e w' => e = .returned (.bool true) ∧ w.setCell ⟨cb, (row * width + col).toNat, none⟩ (.int .i64 x) = w' := by
  have hp := place_any g cb cap rows width cells row col w G h1 h2 h3 h4 h5 h6
  obtain ⟨hi1, hi2⟩ := idx_lt h1 h2 h3 h4
  have hsz := G.sz
  obtain ⟨u, hu⟩ : ∃ u, (i64s cells)[(row * width + col).toNat]? = some u := ⟨_, List.getElem?_eq_getElem (by simp [i64s]; omega)⟩
  have hc : w.cell? ⟨cb, (row * width + col).toNat, none⟩ = some u := by
    rw [G.row.cellAt _ (by omega)]
    exact hu
  have hf := G.row.frozenAt (row * width + col).toNat
  have c2 : w.cell? ⟨g, 2, none⟩ = some (.slice (some ⟨cb, 0, none⟩) cells.length cap) := by simp [World.cell?, G.hd]
  rw [← hsz] at hi2
  have HP := Lib.hid hp
  clear hp hu hsz G
  generalize hj : row * width + col = j at *
  clear hj
  go_enter Tryz.func310, Tryz.ntmps310
  go_wp2_with fail
  refine HP.out.mono ?_
  rintro e w' ⟨rfl, rfl⟩
  go_wp2
  go_ret
  exact ⟨rfl, rfl⟩

theorem rows_any (g cb cap rows width : Nat) (cells : List Int) (w : World) (G : GridOk w g cb cap rows width cells) :
   Calls Tryz.prog 326 #[.pointer (some ⟨g, 0, none⟩)] w fun e w' => e = .returned (.int .i64 rows) ∧ w = w' := by
  have c0 : w.cell? ⟨g, 0, none⟩ = some (.int .i64 rows) := by simp [World.cell?, G.hd]
  go_enter Tryz.func326, Tryz.ntmps326
  go_wp2
  go_ret
  exact ⟨rfl, rfl⟩
theorem width_any (g cb cap rows width : Nat) (cells : List Int) (w : World) (G : GridOk w g cb cap rows width cells) :
   Calls Tryz.prog 308 #[.pointer (some ⟨g, 0, none⟩)] w fun e w' => e = .returned (.int .i64 width) ∧ w = w' := by
  have c0 : w.cell? ⟨g, 1, none⟩ = some (.int .i64 width) := by simp [World.cell?, G.hd]
  go_enter Tryz.func308, Tryz.ntmps308
  go_wp2
  go_ret
  exact ⟨rfl, rfl⟩
end Go.Proofs.YtbhppbeepmllaaaGreatDoor
