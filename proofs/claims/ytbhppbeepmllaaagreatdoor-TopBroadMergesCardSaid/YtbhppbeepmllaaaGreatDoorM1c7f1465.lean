import Derived.Test.YtbhppbeepmllaaaGreatDoorM0e7b2132
set_option linter.unusedVariables false
set_option linter.unusedSimpArgs false
set_option maxRecDepth 100000
set_option maxHeartbeats 2000000
namespace Go.Proofs.YtbhppbeepmllaaaGreatDoor
open Go.RowKit

theorem query_quantile_no (ag mb n : Nat) (sd : Nat → Nat) (h g cc : Nat) (p : Int) (P : World → Prop) (w : World) (A : AggSt w ag mb n sd) (hn : n ≤ 32) (h1 : 1 ≤ h) (h2 : h ≤ n) (hg : g < w.heap.size) (hp : w.cell? ⟨g, 1, none⟩ = some (.int .i64 p))
  (HU : ∀ w1, Below w.heap.size w w1 → Calls Tryz.prog 122 #[.pointer (some ⟨sd h, 0, none⟩), .int .i64 p] w1 fun e w' => e = .returned (.tuple #[.int .u64 0, .int .i64 6]) ∧ P w') :
  Calls Tryz.prog 82 #[.pointer (some ⟨ag, 0, none⟩), .agg #[.string ⟨#[113, 117, 97, 110, 116, 105, 108, 101]⟩, .int .i64 h, .slice (some ⟨g, 1, none⟩) 1 cc]] w fun e w' => e = .returned (.tuple #[.nilIface, .int .i64 6]) ∧ P w' := by
 obtain ⟨W1, hW1⟩ : ∃ W1, w.alloc (.cells #[.string ⟨#[113, 117, 97, 110, 116, 105, 108, 101]⟩, .int .i64 h, .slice (some ⟨g, 1, none⟩) 1 cc] 168) = W1 := ⟨_, rfl⟩
 have b1 : Below w.heap.size w W1 := by rw [← hW1]; exact (Below.refl _ _).alloc (Nat.le_refl _) _
 have x1 : W1.heap[w.heap.size]? = some (.cells #[.string ⟨#[113, 117, 97, 110, 116, 105, 108, 101]⟩, .int .i64 h, .slice (some ⟨g, 1, none⟩) 1 cc] 168 (0, 0)) := by rw [← hW1]; exact heap_alloc_at _ rfl
 have A1 := A.below b1
 have q0 : W1.cell? ⟨ag, 0, none⟩ = some (.map (some mb)) := cell_of_heap A1.hd 0 _ rfl
 have y0 : W1.cell? ⟨w.heap.size, 1, none⟩ = some (.int .i64 h) := cell_of_heap x1 1 _ rfl
 have hla := lt_of_block A1.hd
 have hlx := lt_of_block x1
 have HX := Lib.hid (And.intro x1 b1)
 have HU' := Lib.hid HU
 have hsz : W1.heap.size = w.heap.size + 1 := by rw [← hW1]; simp
 have HS := Lib.hid hsz
 clear hsz
 clear b1 x1 HU A
 go_enter Tryz.func82, Tryz.ntmps82
 go_wp2_with fail
 have KA : ∀ w', Below W1.heap.size W1 w' → (Below W1.heap.size W1 w' ∧ w'.cell? ⟨ag, 0, none⟩ = some (.map (some mb)) ∧ w'.cell? ⟨w.heap.size, 1, none⟩ = some (.int .i64 h) ∧ (Instr.lookup 215 (.map (some mb)) (.int .i64 (h : Int)) true).run Tryz.prog w' = .ok (.tuple #[.agg #[.pointer (some ⟨sd h, 0, none⟩), .pointer none], .bool true]) w') :=
  fun w' hb => ⟨hb, (hb.cell (p := ⟨ag, 0, none⟩) hla).trans q0, (hb.cell (p := ⟨w.heap.size, 1, none⟩) hlx).trans y0, (A1.below hb).map.look hn h h1 h2⟩
 go_region_held3 (fun w' => Below W1.heap.size W1 w' ∧ w'.cell? ⟨ag, 0, none⟩ = some (.map (some mb)) ∧ w'.cell? ⟨w.heap.size, 1, none⟩ = some (.int .i64 h) ∧ (Instr.lookup 215 (.map (some mb)) (.int .i64 (h : Int)) true).run Tryz.prog w' = .ok (.tuple #[.agg #[.pointer (some ⟨sd h, 0, none⟩), .pointer none], .bool true]) w')
  (first | (refine KA _ ?_; repeat' (first | exact Below.refl _ _ | refine Below.drew ?_ | refine Below.alloc ?_ (by simp) _ | refine Below.setCell ?_ (by simp) _)))
  (fail)
 all_goals (
  obtain ⟨W2, hW2⟩ : ∃ W2, (W1.alloc (.cells #[.pointer (some ⟨sd h, 0, none⟩), .pointer none] 156)).drew = W2 := ⟨_, rfl⟩
  rw [hW2]
  obtain ⟨x1, b1⟩ := HX.out
  have k2 : Below W1.heap.size W1 W2 := by rw [← hW2]; exact ((Below.refl _ _).alloc (Nat.le_refl _) _).drew
  have z2 : W2.heap[W1.heap.size]? = some (.cells #[.pointer (some ⟨sd h, 0, none⟩), .pointer none] 156 (0, 0)) := by rw [← hW2]; exact heap_alloc_at _ rfl
  have x2 := (k2.block _ hlx).trans x1
  have p0 : W2.cell? ⟨W1.heap.size, 0, none⟩ = some (.pointer (some ⟨sd h, 0, none⟩)) := cell_of_heap z2 0 _ rfl
  have p1 : W2.cell? ⟨W1.heap.size, 1, none⟩ = some (.pointer none) := cell_of_heap z2 1 _ rfl
  have b2 : Below w.heap.size w W2 := b1.trans (k2.mono b1.size)
  have y1 : W2.cell? ⟨w.heap.size, 0, none⟩ = some (.string ⟨#[113, 117, 97, 110, 116, 105, 108, 101]⟩) := cell_of_heap x2 0 _ rfl
  have y2 : W2.cell? ⟨w.heap.size, 2, none⟩ = some (.slice (some ⟨g, 1, none⟩) 1 cc) := cell_of_heap x2 2 _ rfl
  have hx2 := lt_of_block x2
  have hT := Lib.hid fun (w3 : World) => thing_stack (sd h) w3
  have Hb := Lib.hid b2
  clear hW2 x1 b1 k2 z2 x2 b2 A1 q0 y0 hW1
  go_wp2_with fail
  refine (hT.out _).mono ?_
  rintro e w3 ⟨rfl, hb3⟩
  have b3 := Hb.out.trans (hb3.mono Hb.out.size)
  have y1' := (hb3.cell (p := ⟨w.heap.size, 0, none⟩) hx2).trans y1
  have y2' := (hb3.cell (p := ⟨w.heap.size, 2, none⟩) hx2).trans y2
  have hp' := (b3.cell (p := ⟨g, 1, none⟩) hg).trans hp
  have HC := Lib.hid (HU'.out w3 b3)
  clear hT hb3 b3 Hb y1 y2 p0 p1 hp HU'
  go_wp2_with fail
  refine HC.out.mono ?_
  rintro e w4 ⟨rfl, hP⟩
  have HP := Lib.hid hP
  clear HC hP
  go_wp2_with fail
  go_ret2
  exact ⟨rfl, HP.out⟩)
theorem query_heavy_no (ag mb n : Nat) (sd : Nat → Nat) (h g cc : Nat) (k0 k1 : Int) (P : World → Prop) (w : World) (A : AggSt w ag mb n sd) (hn : n ≤ 32) (h1 : 1 ≤ h) (h2 : h ≤ n) (hg : g < w.heap.size) (hp0 : w.cell? ⟨g, 1, none⟩ = some (.int .i64 k0)) (hp1 : w.cell? ⟨g, 2, none⟩ = some (.int .i64 k1))
  (HU : ∀ w1, Below w.heap.size w w1 → Calls Tryz.prog 123 #[.pointer (some ⟨sd h, 0, none⟩), .int .i64 k0, .int .i64 k1] w1 fun e w' => e = .returned (.tuple #[.slice none 0 0, .int .i64 7]) ∧ P w') :
  Calls Tryz.prog 82 #[.pointer (some ⟨ag, 0, none⟩), .agg #[.string ⟨#[104, 101, 97, 118, 121]⟩, .int .i64 h, .slice (some ⟨g, 1, none⟩) 2 cc]] w fun e w' => e = .returned (.tuple #[.nilIface, .int .i64 7]) ∧ P w' := by
 obtain ⟨W1, hW1⟩ : ∃ W1, w.alloc (.cells #[.string ⟨#[104, 101, 97, 118, 121]⟩, .int .i64 h, .slice (some ⟨g, 1, none⟩) 2 cc] 168) = W1 := ⟨_, rfl⟩
 have b1 : Below w.heap.size w W1 := by rw [← hW1]; exact (Below.refl _ _).alloc (Nat.le_refl _) _
 have x1 : W1.heap[w.heap.size]? = some (.cells #[.string ⟨#[104, 101, 97, 118, 121]⟩, .int .i64 h, .slice (some ⟨g, 1, none⟩) 2 cc] 168 (0, 0)) := by rw [← hW1]; exact heap_alloc_at _ rfl
 have A1 := A.below b1
 have q0 : W1.cell? ⟨ag, 0, none⟩ = some (.map (some mb)) := cell_of_heap A1.hd 0 _ rfl
 have y0 : W1.cell? ⟨w.heap.size, 1, none⟩ = some (.int .i64 h) := cell_of_heap x1 1 _ rfl
 have hla := lt_of_block A1.hd
 have hlx := lt_of_block x1
 have HX := Lib.hid (And.intro x1 b1)
 have HU' := Lib.hid HU
 have hsz : W1.heap.size = w.heap.size + 1 := by rw [← hW1]; simp
 have HS := Lib.hid hsz
 clear hsz
 clear b1 x1 HU A
 go_enter Tryz.func82, Tryz.ntmps82
 go_wp2_with fail
 have KA : ∀ w', Below W1.heap.size W1 w' → (Below W1.heap.size W1 w' ∧ w'.cell? ⟨ag, 0, none⟩ = some (.map (some mb)) ∧ w'.cell? ⟨w.heap.size, 1, none⟩ = some (.int .i64 h) ∧ (Instr.lookup 215 (.map (some mb)) (.int .i64 (h : Int)) true).run Tryz.prog w' = .ok (.tuple #[.agg #[.pointer (some ⟨sd h, 0, none⟩), .pointer none], .bool true]) w') :=
  fun w' hb => ⟨hb, (hb.cell (p := ⟨ag, 0, none⟩) hla).trans q0, (hb.cell (p := ⟨w.heap.size, 1, none⟩) hlx).trans y0, (A1.below hb).map.look hn h h1 h2⟩
 go_region_held3 (fun w' => Below W1.heap.size W1 w' ∧ w'.cell? ⟨ag, 0, none⟩ = some (.map (some mb)) ∧ w'.cell? ⟨w.heap.size, 1, none⟩ = some (.int .i64 h) ∧ (Instr.lookup 215 (.map (some mb)) (.int .i64 (h : Int)) true).run Tryz.prog w' = .ok (.tuple #[.agg #[.pointer (some ⟨sd h, 0, none⟩), .pointer none], .bool true]) w')
  (first | (refine KA _ ?_; repeat' (first | exact Below.refl _ _ | refine Below.drew ?_ | refine Below.alloc ?_ (by simp) _ | refine Below.setCell ?_ (by simp) _)))
  (fail)
 all_goals (
  obtain ⟨W2, hW2⟩ : ∃ W2, (W1.alloc (.cells #[.pointer (some ⟨sd h, 0, none⟩), .pointer none] 156)).drew = W2 := ⟨_, rfl⟩
  rw [hW2]
  obtain ⟨x1, b1⟩ := HX.out
  have k2 : Below W1.heap.size W1 W2 := by rw [← hW2]; exact ((Below.refl _ _).alloc (Nat.le_refl _) _).drew
  have z2 : W2.heap[W1.heap.size]? = some (.cells #[.pointer (some ⟨sd h, 0, none⟩), .pointer none] 156 (0, 0)) := by rw [← hW2]; exact heap_alloc_at _ rfl
  have x2 := (k2.block _ hlx).trans x1
  have p0 : W2.cell? ⟨W1.heap.size, 0, none⟩ = some (.pointer (some ⟨sd h, 0, none⟩)) := cell_of_heap z2 0 _ rfl
  have p1 : W2.cell? ⟨W1.heap.size, 1, none⟩ = some (.pointer none) := cell_of_heap z2 1 _ rfl
  have b2 : Below w.heap.size w W2 := b1.trans (k2.mono b1.size)
  have y1 : W2.cell? ⟨w.heap.size, 0, none⟩ = some (.string ⟨#[104, 101, 97, 118, 121]⟩) := cell_of_heap x2 0 _ rfl
  have y2 : W2.cell? ⟨w.heap.size, 2, none⟩ = some (.slice (some ⟨g, 1, none⟩) 2 cc) := cell_of_heap x2 2 _ rfl
  have hx2 := lt_of_block x2
  have hT := Lib.hid fun (w3 : World) => thing_stack (sd h) w3
  have Hb := Lib.hid b2
  clear hW2 x1 b1 k2 z2 x2 b2 A1 q0 y0 hW1
  go_wp2_with fail
  refine (hT.out _).mono ?_
  rintro e w3 ⟨rfl, hb3⟩
  have b3 := Hb.out.trans (hb3.mono Hb.out.size)
  have y1' := (hb3.cell (p := ⟨w.heap.size, 0, none⟩) hx2).trans y1
  have y2' := (hb3.cell (p := ⟨w.heap.size, 2, none⟩) hx2).trans y2
  have hp0' := (b3.cell (p := ⟨g, 1, none⟩) hg).trans hp0
  have hp1' := (b3.cell (p := ⟨g, 2, none⟩) hg).trans hp1
  have hx3 : w.heap.size < w3.heap.size := Nat.lt_of_lt_of_le hx2 hb3.size
  have hg3 : g < w3.heap.size := Nat.lt_of_lt_of_le hg b3.size
  have HB3 := Lib.hid b3
  clear hT hb3 b3 Hb y1 y2 p0 p1 hp0 hp1
  go_wp2_with fail
  refine wp_region_mixA w3.heap.size [0, 1, 2, 3, 4, 5, 6, 7, 8] [9, 10, 11, 12, 13, 14] (by kernel_rfl) (by kernel_rfl) rfl ?_
  simp only [opsAt, List.map_cons, List.map_nil, List.getElem?_toArray, List.getElem?_cons_zero, List.getElem?_cons_succ, Option.getD_some]
  have r0 := fun k : After w3.heap.size w3 => k.cell hx3 y2'
  have r1 := fun k : After w3.heap.size w3 => k.cell hg3 hp0'
  have r2 := fun k : After w3.heap.size w3 => k.cell hg3 hp1'
  repeat (go_big_quiet_step (fail))
  refine wpQuiet_nil ?_
  intro kk
  unfold calmQ
  have kb := kk.h
  clear r0 r1 r2 y1' y2' hp0' hp1'
  obtain ⟨w4, hw4⟩ : ∃ w4, kk.w = w4 := ⟨_, rfl⟩
  rw [hw4] at kb
  rw [hw4]
  clear hw4
  have HC := Lib.hid (HU'.out w4 (HB3.out.trans (kb.mono HB3.out.size)))
  clear HU' kb HB3
  go_wp2_with fail
  refine HC.out.mono ?_
  rintro e w5 ⟨rfl, hP⟩
  have HP := Lib.hid hP
  clear HC hP
  go_wp2_with fail
  go_ret2
  exact ⟨rfl, HP.out⟩)
theorem query_export (ag mb n : Nat) (sd : Nat → Nat) (h : Nat) (fo : Option Addr) (fm fc : Nat) (P : World → Prop) (w : World) (A : AggSt w ag mb n sd) (hn : n ≤ 32) (h1 : 1 ≤ h) (h2 : h ≤ n)
  (HU : ∀ w1, Below w.heap.size w w1 → Calls Tryz.prog 118 #[.pointer (some ⟨sd h, 0, none⟩)] w1 fun e w' => e = .returned (.slice fo fm fc) ∧ P w') :
  Calls Tryz.prog 82 #[.pointer (some ⟨ag, 0, none⟩), .agg #[.string ⟨#[101, 120, 112, 111, 114, 116]⟩, .int .i64 h, .slice none 0 0]] w fun e w' => e = .returned (.tuple #[.iface 201 (.agg #[.slice fo fm fc]), .int .i64 0]) ∧ P w' := by
 obtain ⟨W1, hW1⟩ : ∃ W1, w.alloc (.cells #[.string ⟨#[101, 120, 112, 111, 114, 116]⟩, .int .i64 h, .slice none 0 0] 168) = W1 := ⟨_, rfl⟩
 have b1 : Below w.heap.size w W1 := by rw [← hW1]; exact (Below.refl _ _).alloc (Nat.le_refl _) _
 have x1 : W1.heap[w.heap.size]? = some (.cells #[.string ⟨#[101, 120, 112, 111, 114, 116]⟩, .int .i64 h, .slice none 0 0] 168 (0, 0)) := by rw [← hW1]; exact heap_alloc_at _ rfl
 have A1 := A.below b1
 have q0 : W1.cell? ⟨ag, 0, none⟩ = some (.map (some mb)) := cell_of_heap A1.hd 0 _ rfl
 have y0 : W1.cell? ⟨w.heap.size, 1, none⟩ = some (.int .i64 h) := cell_of_heap x1 1 _ rfl
 have hla := lt_of_block A1.hd
 have hlx := lt_of_block x1
 have HX := Lib.hid (And.intro x1 b1)
 have HU' := Lib.hid HU
 have hsz : W1.heap.size = w.heap.size + 1 := by rw [← hW1]; simp
 have HS := Lib.hid hsz
 clear hsz
 clear b1 x1 HU A
 go_enter Tryz.func82, Tryz.ntmps82
 go_wp2_with fail
 have KA : ∀ w', Below W1.heap.size W1 w' → (Below W1.heap.size W1 w' ∧ w'.cell? ⟨ag, 0, none⟩ = some (.map (some mb)) ∧ w'.cell? ⟨w.heap.size, 1, none⟩ = some (.int .i64 h) ∧ (Instr.lookup 215 (.map (some mb)) (.int .i64 (h : Int)) true).run Tryz.prog w' = .ok (.tuple #[.agg #[.pointer (some ⟨sd h, 0, none⟩), .pointer none], .bool true]) w') :=
  fun w' hb => ⟨hb, (hb.cell (p := ⟨ag, 0, none⟩) hla).trans q0, (hb.cell (p := ⟨w.heap.size, 1, none⟩) hlx).trans y0, (A1.below hb).map.look hn h h1 h2⟩
 go_region_held3 (fun w' => Below W1.heap.size W1 w' ∧ w'.cell? ⟨ag, 0, none⟩ = some (.map (some mb)) ∧ w'.cell? ⟨w.heap.size, 1, none⟩ = some (.int .i64 h) ∧ (Instr.lookup 215 (.map (some mb)) (.int .i64 (h : Int)) true).run Tryz.prog w' = .ok (.tuple #[.agg #[.pointer (some ⟨sd h, 0, none⟩), .pointer none], .bool true]) w')
  (first | (refine KA _ ?_; repeat' (first | exact Below.refl _ _ | refine Below.drew ?_ | refine Below.alloc ?_ (by simp) _ | refine Below.setCell ?_ (by simp) _)))
  (fail)
 all_goals (
  obtain ⟨W2, hW2⟩ : ∃ W2, (W1.alloc (.cells #[.pointer (some ⟨sd h, 0, none⟩), .pointer none] 156)).drew = W2 := ⟨_, rfl⟩
  rw [hW2]
  obtain ⟨x1, b1⟩ := HX.out
  have k2 : Below W1.heap.size W1 W2 := by rw [← hW2]; exact ((Below.refl _ _).alloc (Nat.le_refl _) _).drew
  have z2 : W2.heap[W1.heap.size]? = some (.cells #[.pointer (some ⟨sd h, 0, none⟩), .pointer none] 156 (0, 0)) := by rw [← hW2]; exact heap_alloc_at _ rfl
  have x2 := (k2.block _ hlx).trans x1
  have p0 : W2.cell? ⟨W1.heap.size, 0, none⟩ = some (.pointer (some ⟨sd h, 0, none⟩)) := cell_of_heap z2 0 _ rfl
  have p1 : W2.cell? ⟨W1.heap.size, 1, none⟩ = some (.pointer none) := cell_of_heap z2 1 _ rfl
  have b2 : Below w.heap.size w W2 := b1.trans (k2.mono b1.size)
  have y1 : W2.cell? ⟨w.heap.size, 0, none⟩ = some (.string ⟨#[101, 120, 112, 111, 114, 116]⟩) := cell_of_heap x2 0 _ rfl
  have hx2 := lt_of_block x2
  have hT := Lib.hid fun (w3 : World) => thing_stack (sd h) w3
  have Hb := Lib.hid b2
  clear hW2 x1 b1 k2 z2 x2 b2 A1 q0 y0 hW1
  go_wp2_with fail
  refine (hT.out _).mono ?_
  rintro e w3 ⟨rfl, hb3⟩
  have b3 := Hb.out.trans (hb3.mono Hb.out.size)
  have y1' := (hb3.cell (p := ⟨w.heap.size, 0, none⟩) hx2).trans y1
  have HC := Lib.hid (HU'.out w3 b3)
  clear hT hb3 b3 Hb y1 p0 p1 HU'
  go_wp2_with fail
  refine HC.out.mono ?_
  rintro e w4 ⟨rfl, hP⟩
  have HP := Lib.hid hP
  clear HC hP
  go_wp2_with fail
  go_ret2
  exact ⟨rfl, HP.out⟩)
end Go.Proofs.YtbhppbeepmllaaaGreatDoor

namespace Go.Proofs.YtbhppbeepmllaaaGreatDoor
open Go.RowKit

theorem as104_152 (v : Value) (w : World) : (Instr.typeAssert (.iface 152 v) 104 152 true).run Tryz.prog w = .ok (.tuple #[v, .bool true]) w := by kernel_rfl
theorem as104_158_152 (v : Value) (w : World) : (Instr.typeAssert (.iface 158 v) 104 152 true).run Tryz.prog w = .ok (.tuple #[.agg #[.int .i64 0, .int .i64 0, .int .i64 0, .int .i64 0, .int .u64 0], .bool false]) w := by kernel_rfl
theorem as104_158 (v : Value) (w : World) : (Instr.typeAssert (.iface 158 v) 104 158 true).run Tryz.prog w = .ok (.tuple #[v, .bool true]) w := by kernel_rfl
theorem as104_162_152 (v : Value) (w : World) : (Instr.typeAssert (.iface 162 v) 104 152 true).run Tryz.prog w = .ok (.tuple #[.agg #[.int .i64 0, .int .i64 0, .int .i64 0, .int .i64 0, .int .u64 0], .bool false]) w := by kernel_rfl
theorem as104_162_158 (v : Value) (w : World) : (Instr.typeAssert (.iface 162 v) 104 158 true).run Tryz.prog w = .ok (.tuple #[.agg #[.int .i64 0, .int .i64 0, .int .i64 0, .int .i64 0, .int .u64 0, .int .i64 0], .bool false]) w := by kernel_rfl
theorem as104_162 (v : Value) (w : World) : (Instr.typeAssert (.iface 162 v) 104 162 true).run Tryz.prog w = .ok (.tuple #[v, .bool true]) w := by kernel_rfl
theorem as104_165_152 (v : Value) (w : World) : (Instr.typeAssert (.iface 165 v) 104 152 true).run Tryz.prog w = .ok (.tuple #[.agg #[.int .i64 0, .int .i64 0, .int .i64 0, .int .i64 0, .int .u64 0], .bool false]) w := by kernel_rfl
theorem as104_165_158 (v : Value) (w : World) : (Instr.typeAssert (.iface 165 v) 104 158 true).run Tryz.prog w = .ok (.tuple #[.agg #[.int .i64 0, .int .i64 0, .int .i64 0, .int .i64 0, .int .u64 0, .int .i64 0], .bool false]) w := by kernel_rfl
theorem as104_165_162 (v : Value) (w : World) : (Instr.typeAssert (.iface 165 v) 104 162 true).run Tryz.prog w = .ok (.tuple #[.agg #[.int .i64 0, .bool false, .string ⟨#[]⟩, .int .u64 0, .int .i64 0], .bool false]) w := by kernel_rfl
theorem as104_165 (v : Value) (w : World) : (Instr.typeAssert (.iface 165 v) 104 165 true).run Tryz.prog w = .ok (.tuple #[v, .bool true]) w := by kernel_rfl
theorem as104_168_152 (v : Value) (w : World) : (Instr.typeAssert (.iface 168 v) 104 152 true).run Tryz.prog w = .ok (.tuple #[.agg #[.int .i64 0, .int .i64 0, .int .i64 0, .int .i64 0, .int .u64 0], .bool false]) w := by kernel_rfl
theorem as104_168_158 (v : Value) (w : World) : (Instr.typeAssert (.iface 168 v) 104 158 true).run Tryz.prog w = .ok (.tuple #[.agg #[.int .i64 0, .int .i64 0, .int .i64 0, .int .i64 0, .int .u64 0, .int .i64 0], .bool false]) w := by kernel_rfl
theorem as104_168_162 (v : Value) (w : World) : (Instr.typeAssert (.iface 168 v) 104 162 true).run Tryz.prog w = .ok (.tuple #[.agg #[.int .i64 0, .bool false, .string ⟨#[]⟩, .int .u64 0, .int .i64 0], .bool false]) w := by kernel_rfl
theorem as104_168_165 (v : Value) (w : World) : (Instr.typeAssert (.iface 168 v) 104 165 true).run Tryz.prog w = .ok (.tuple #[.agg #[], .bool false]) w := by kernel_rfl
theorem as104_168 (v : Value) (w : World) : (Instr.typeAssert (.iface 168 v) 104 168 true).run Tryz.prog w = .ok (.tuple #[v, .bool true]) w := by kernel_rfl
theorem as104_171_152 (v : Value) (w : World) : (Instr.typeAssert (.iface 171 v) 104 152 true).run Tryz.prog w = .ok (.tuple #[.agg #[.int .i64 0, .int .i64 0, .int .i64 0, .int .i64 0, .int .u64 0], .bool false]) w := by kernel_rfl
theorem as104_171_158 (v : Value) (w : World) : (Instr.typeAssert (.iface 171 v) 104 158 true).run Tryz.prog w = .ok (.tuple #[.agg #[.int .i64 0, .int .i64 0, .int .i64 0, .int .i64 0, .int .u64 0, .int .i64 0], .bool false]) w := by kernel_rfl
theorem as104_171_162 (v : Value) (w : World) : (Instr.typeAssert (.iface 171 v) 104 162 true).run Tryz.prog w = .ok (.tuple #[.agg #[.int .i64 0, .bool false, .string ⟨#[]⟩, .int .u64 0, .int .i64 0], .bool false]) w := by kernel_rfl
theorem as104_171_165 (v : Value) (w : World) : (Instr.typeAssert (.iface 171 v) 104 165 true).run Tryz.prog w = .ok (.tuple #[.agg #[], .bool false]) w := by kernel_rfl
theorem as104_171_168 (v : Value) (w : World) : (Instr.typeAssert (.iface 171 v) 104 168 true).run Tryz.prog w = .ok (.tuple #[.agg #[.string ⟨#[]⟩, .int .i64 0, .slice none 0 0], .bool false]) w := by kernel_rfl
theorem as104_171 (v : Value) (w : World) : (Instr.typeAssert (.iface 171 v) 104 171 true).run Tryz.prog w = .ok (.tuple #[v, .bool true]) w := by kernel_rfl
theorem as104_174_152 (v : Value) (w : World) : (Instr.typeAssert (.iface 174 v) 104 152 true).run Tryz.prog w = .ok (.tuple #[.agg #[.int .i64 0, .int .i64 0, .int .i64 0, .int .i64 0, .int .u64 0], .bool false]) w := by kernel_rfl
theorem as104_174_158 (v : Value) (w : World) : (Instr.typeAssert (.iface 174 v) 104 158 true).run Tryz.prog w = .ok (.tuple #[.agg #[.int .i64 0, .int .i64 0, .int .i64 0, .int .i64 0, .int .u64 0, .int .i64 0], .bool false]) w := by kernel_rfl
theorem as104_174_162 (v : Value) (w : World) : (Instr.typeAssert (.iface 174 v) 104 162 true).run Tryz.prog w = .ok (.tuple #[.agg #[.int .i64 0, .bool false, .string ⟨#[]⟩, .int .u64 0, .int .i64 0], .bool false]) w := by kernel_rfl
theorem as104_174_165 (v : Value) (w : World) : (Instr.typeAssert (.iface 174 v) 104 165 true).run Tryz.prog w = .ok (.tuple #[.agg #[], .bool false]) w := by kernel_rfl
theorem as104_174_168 (v : Value) (w : World) : (Instr.typeAssert (.iface 174 v) 104 168 true).run Tryz.prog w = .ok (.tuple #[.agg #[.string ⟨#[]⟩, .int .i64 0, .slice none 0 0], .bool false]) w := by kernel_rfl
theorem as104_174_171 (v : Value) (w : World) : (Instr.typeAssert (.iface 174 v) 104 171 true).run Tryz.prog w = .ok (.tuple #[.agg #[.string ⟨#[]⟩, .int .i64 0, .int .i64 0], .bool false]) w := by kernel_rfl
theorem as104_174 (v : Value) (w : World) : (Instr.typeAssert (.iface 174 v) 104 174 true).run Tryz.prog w = .ok (.tuple #[v, .bool true]) w := by kernel_rfl
theorem as110_178 (v : Value) (w : World) : (Instr.typeAssert (.iface 178 v) 110 178 true).run Tryz.prog w = .ok (.tuple #[v, .bool true]) w := by kernel_rfl
theorem as110_180_178 (v : Value) (w : World) : (Instr.typeAssert (.iface 180 v) 110 178 true).run Tryz.prog w = .ok (.tuple #[.agg #[], .bool false]) w := by kernel_rfl
theorem as110_180 (v : Value) (w : World) : (Instr.typeAssert (.iface 180 v) 110 180 true).run Tryz.prog w = .ok (.tuple #[v, .bool true]) w := by kernel_rfl
theorem as110_182_178 (v : Value) (w : World) : (Instr.typeAssert (.iface 182 v) 110 178 true).run Tryz.prog w = .ok (.tuple #[.agg #[], .bool false]) w := by kernel_rfl
theorem as110_182_180 (v : Value) (w : World) : (Instr.typeAssert (.iface 182 v) 110 180 true).run Tryz.prog w = .ok (.tuple #[.agg #[.int .i64 0], .bool false]) w := by kernel_rfl
theorem as110_182 (v : Value) (w : World) : (Instr.typeAssert (.iface 182 v) 110 182 true).run Tryz.prog w = .ok (.tuple #[v, .bool true]) w := by kernel_rfl
theorem as110_185_178 (v : Value) (w : World) : (Instr.typeAssert (.iface 185 v) 110 178 true).run Tryz.prog w = .ok (.tuple #[.agg #[], .bool false]) w := by kernel_rfl
theorem as110_185_180 (v : Value) (w : World) : (Instr.typeAssert (.iface 185 v) 110 180 true).run Tryz.prog w = .ok (.tuple #[.agg #[.int .i64 0], .bool false]) w := by kernel_rfl
theorem as110_185_182 (v : Value) (w : World) : (Instr.typeAssert (.iface 185 v) 110 182 true).run Tryz.prog w = .ok (.tuple #[.agg #[.int .i64 0], .bool false]) w := by kernel_rfl
theorem as110_185 (v : Value) (w : World) : (Instr.typeAssert (.iface 185 v) 110 185 true).run Tryz.prog w = .ok (.tuple #[v, .bool true]) w := by kernel_rfl
theorem as110_190_178 (v : Value) (w : World) : (Instr.typeAssert (.iface 190 v) 110 178 true).run Tryz.prog w = .ok (.tuple #[.agg #[], .bool false]) w := by kernel_rfl
theorem as110_190_180 (v : Value) (w : World) : (Instr.typeAssert (.iface 190 v) 110 180 true).run Tryz.prog w = .ok (.tuple #[.agg #[.int .i64 0], .bool false]) w := by kernel_rfl
theorem as110_190_182 (v : Value) (w : World) : (Instr.typeAssert (.iface 190 v) 110 182 true).run Tryz.prog w = .ok (.tuple #[.agg #[.int .i64 0], .bool false]) w := by kernel_rfl
theorem as110_190_185 (v : Value) (w : World) : (Instr.typeAssert (.iface 190 v) 110 185 true).run Tryz.prog w = .ok (.tuple #[.agg #[.int .u64 0], .bool false]) w := by kernel_rfl
theorem as110_190 (v : Value) (w : World) : (Instr.typeAssert (.iface 190 v) 110 190 true).run Tryz.prog w = .ok (.tuple #[v, .bool true]) w := by kernel_rfl
theorem as110_194_178 (v : Value) (w : World) : (Instr.typeAssert (.iface 194 v) 110 178 true).run Tryz.prog w = .ok (.tuple #[.agg #[], .bool false]) w := by kernel_rfl
theorem as110_194_180 (v : Value) (w : World) : (Instr.typeAssert (.iface 194 v) 110 180 true).run Tryz.prog w = .ok (.tuple #[.agg #[.int .i64 0], .bool false]) w := by kernel_rfl
theorem as110_194_182 (v : Value) (w : World) : (Instr.typeAssert (.iface 194 v) 110 182 true).run Tryz.prog w = .ok (.tuple #[.agg #[.int .i64 0], .bool false]) w := by kernel_rfl
theorem as110_194_185 (v : Value) (w : World) : (Instr.typeAssert (.iface 194 v) 110 185 true).run Tryz.prog w = .ok (.tuple #[.agg #[.int .u64 0], .bool false]) w := by kernel_rfl
theorem as110_194_190 (v : Value) (w : World) : (Instr.typeAssert (.iface 194 v) 110 190 true).run Tryz.prog w = .ok (.tuple #[.agg #[.int .i64 0, .int .u64 0], .bool false]) w := by kernel_rfl
theorem as110_194 (v : Value) (w : World) : (Instr.typeAssert (.iface 194 v) 110 194 true).run Tryz.prog w = .ok (.tuple #[v, .bool true]) w := by kernel_rfl
theorem as110_201_178 (v : Value) (w : World) : (Instr.typeAssert (.iface 201 v) 110 178 true).run Tryz.prog w = .ok (.tuple #[.agg #[], .bool false]) w := by kernel_rfl
theorem as110_201_180 (v : Value) (w : World) : (Instr.typeAssert (.iface 201 v) 110 180 true).run Tryz.prog w = .ok (.tuple #[.agg #[.int .i64 0], .bool false]) w := by kernel_rfl
theorem as110_201_182 (v : Value) (w : World) : (Instr.typeAssert (.iface 201 v) 110 182 true).run Tryz.prog w = .ok (.tuple #[.agg #[.int .i64 0], .bool false]) w := by kernel_rfl
theorem as110_201_185 (v : Value) (w : World) : (Instr.typeAssert (.iface 201 v) 110 185 true).run Tryz.prog w = .ok (.tuple #[.agg #[.int .u64 0], .bool false]) w := by kernel_rfl
theorem as110_201_190 (v : Value) (w : World) : (Instr.typeAssert (.iface 201 v) 110 190 true).run Tryz.prog w = .ok (.tuple #[.agg #[.int .i64 0, .int .u64 0], .bool false]) w := by kernel_rfl
theorem as110_201_194 (v : Value) (w : World) : (Instr.typeAssert (.iface 201 v) 110 194 true).run Tryz.prog w = .ok (.tuple #[.agg #[.slice none 0 0], .bool false]) w := by kernel_rfl
theorem as110_201 (v : Value) (w : World) : (Instr.typeAssert (.iface 201 v) 110 201 true).run Tryz.prog w = .ok (.tuple #[v, .bool true]) w := by kernel_rfl
theorem do_add (ag : Nat) (h key d : Int) (r : Value) (ec : Int) (P : World → Prop) (w : World)
  (HU : ∀ w1, Below w.heap.size w w1 → Calls Tryz.prog 80 #[.pointer (some ⟨ag, 0, none⟩), .agg #[.int .i64 h, .bool false, .string ⟨#[]⟩, .int .u64 key, .int .i64 d]] w1 fun e w' => e = .returned (.tuple #[r, .int .i64 ec]) ∧ P w') :
  Calls Tryz.prog 51 #[.pointer (some ⟨ag, 0, none⟩), .iface 162 (.agg #[.int .i64 h, .bool false, .string ⟨#[]⟩, .int .u64 key, .int .i64 d])] w fun e w' => e = .returned (.tuple #[r, .int .i64 ec]) ∧ P w' := by
 have hb : Below w.heap.size w (w.alloc (.cells #[.int .i64 h, .bool false, .string ⟨#[]⟩, .int .u64 key, .int .i64 d] 162)) := (Below.refl _ _).alloc (Nat.le_refl _) _
 have HC := Lib.hid (HU _ hb)
 clear HU hb
 have ta152 := as104_162_152
 have ta158 := as104_162_158
 have ta162 := as104_162
 go_enter Tryz.func51, Tryz.ntmps51
 go_wp2_with fail
 refine HC.out.mono ?_
 rintro e w1 ⟨rfl, hP⟩
 have HP := Lib.hid hP
 clear HC hP
 go_wp2_with fail
 go_ret2
 exact ⟨rfl, HP.out⟩
theorem do_query (ag : Nat) (v : ByteArray) (h : Int) (fo : Option Addr) (fm fc : Nat) (r : Value) (ec : Int) (P : World → Prop) (w : World)
  (HU : ∀ w1, Below w.heap.size w w1 → Calls Tryz.prog 82 #[.pointer (some ⟨ag, 0, none⟩), .agg #[.string v, .int .i64 h, .slice fo fm fc]] w1 fun e w' => e = .returned (.tuple #[r, .int .i64 ec]) ∧ P w') :
  Calls Tryz.prog 51 #[.pointer (some ⟨ag, 0, none⟩), .iface 168 (.agg #[.string v, .int .i64 h, .slice fo fm fc])] w fun e w' => e = .returned (.tuple #[r, .int .i64 ec]) ∧ P w' := by
 have hb : Below w.heap.size w (w.alloc (.cells #[.string v, .int .i64 h, .slice fo fm fc] 168)) := (Below.refl _ _).alloc (Nat.le_refl _) _
 have HC := Lib.hid (HU _ hb)
 clear HU hb
 have ta152 := as104_168_152
 have ta158 := as104_168_158
 have ta162 := as104_168_162
 have ta165 := as104_168_165
 have ta168 := as104_168
 go_enter Tryz.func51, Tryz.ntmps51
 go_wp2_with fail
 refine HC.out.mono ?_
 rintro e w1 ⟨rfl, hP⟩
 have HP := Lib.hid hP
 clear HC hP
 go_wp2_with fail
 go_ret2
 exact ⟨rfl, HP.out⟩
theorem do_pair (ag : Nat) (v : ByteArray) (h j : Int) (r : Value) (ec : Int) (P : World → Prop) (w : World)
  (HU : ∀ w1, Below w.heap.size w w1 → Calls Tryz.prog 83 #[.pointer (some ⟨ag, 0, none⟩), .agg #[.string v, .int .i64 h, .int .i64 j]] w1 fun e w' => e = .returned (.tuple #[r, .int .i64 ec]) ∧ P w') :
  Calls Tryz.prog 51 #[.pointer (some ⟨ag, 0, none⟩), .iface 171 (.agg #[.string v, .int .i64 h, .int .i64 j])] w fun e w' => e = .returned (.tuple #[r, .int .i64 ec]) ∧ P w' := by
 have hb : Below w.heap.size w (w.alloc (.cells #[.string v, .int .i64 h, .int .i64 j] 171)) := (Below.refl _ _).alloc (Nat.le_refl _) _
 have HC := Lib.hid (HU _ hb)
 clear HU hb
 have ta152 := as104_171_152
 have ta158 := as104_171_158
 have ta162 := as104_171_162
 have ta165 := as104_171_165
 have ta168 := as104_171_168
 have ta171 := as104_171
 go_enter Tryz.func51, Tryz.ntmps51
 go_wp2_with fail
 refine HC.out.mono ?_
 rintro e w1 ⟨rfl, hP⟩
 have HP := Lib.hid hP
 clear HC hP
 go_wp2_with fail
 go_ret2
 exact ⟨rfl, HP.out⟩
theorem do_create (ag : Nat) (b rr wd m s : Int) (r : Value) (Q : Nat → World → Prop) (P : World → Prop) (w : World)
  (HN : ∀ w1, Below w.heap.size w w1 → Calls Tryz.prog 59 #[.agg #[.int .i64 b, .int .i64 rr, .int .i64 wd, .int .i64 m, .int .u64 s]] w1 fun e w' => ∃ st, e = .returned (.tuple #[.pointer (some ⟨st, 0, none⟩), .int .i64 0]) ∧ Q st w')
  (HM : ∀ st w1, Q st w1 → Calls Tryz.prog 78 #[.pointer (some ⟨ag, 0, none⟩), .agg #[.pointer (some ⟨st, 0, none⟩), .pointer none], .int .i64 0] w1 fun e w' => e = .returned (.tuple #[r, .int .i64 0]) ∧ P w') :
  Calls Tryz.prog 51 #[.pointer (some ⟨ag, 0, none⟩), .iface 152 (.agg #[.int .i64 b, .int .i64 rr, .int .i64 wd, .int .i64 m, .int .u64 s])] w fun e w' => e = .returned (.tuple #[r, .int .i64 0]) ∧ P w' := by
 have hb : Below w.heap.size w (w.alloc (.cells #[.int .i64 b, .int .i64 rr, .int .i64 wd, .int .i64 m, .int .u64 s] 152)) := (Below.refl _ _).alloc (Nat.le_refl _) _
 have HC := Lib.hid (HN _ hb)
 have HM' := Lib.hid HM
 clear HN HM hb
 have ta152 := as104_152
 go_enter Tryz.func51, Tryz.ntmps51
 go_wp2_with fail
 refine HC.out.mono ?_
 rintro e w1 ⟨st, rfl, hQ⟩
 have HX := Lib.hid (HM'.out st w1 hQ)
 clear HC HM' hQ
 go_wp2_with fail
 refine HX.out.mono ?_
 rintro e w2 ⟨rfl, hP⟩
 have HP := Lib.hid hP
 clear HX hP
 go_wp2_with fail
 go_ret2
 exact ⟨rfl, HP.out⟩
end Go.Proofs.YtbhppbeepmllaaaGreatDoor

namespace Go.Proofs.YtbhppbeepmllaaaGreatDoor
open Go.RowKit

theorem query_point (ag mb n : Nat) (sd : Nat → Nat) (h g cc : Nat) (k0 k1 : Int) (r : Int) (P : World → Prop) (w : World) (A : AggSt w ag mb n sd) (hn : n ≤ 32) (h1 : 1 ≤ h) (h2 : h ≤ n) (hg : g < w.heap.size) (hp0 : w.cell? ⟨g, 1, none⟩ = some (.int .i64 k0)) (hp1 : w.cell? ⟨g, 2, none⟩ = some (.int .i64 k1))
 (hk : (0 ≤ k0 ∧ k0 < 9223372036854775808) ∧ 0 ≤ k1 ∧ k1 < 9223372036854775808)
    (HU : ∀ w1, Below w.heap.size w w1 → Calls Tryz.prog 120 #[.pointer (some ⟨sd h, 0, none⟩), .agg #[.int .i64 k0, .int .u64 k1]] w1 fun e w' => e = .returned (.tuple #[.int .i64 r, .int .i64 0]) ∧ P w') :
    Calls Tryz.prog 82 #[.pointer (some ⟨ag, 0, none⟩), .agg #[.string ⟨#[112, 111, 105, 110, 116]⟩, .int .i64 h, .slice (some ⟨g, 1, none⟩) 2 cc]] w fun e w' => e = .returned (.tuple #[.iface 182 (.agg #[.int .i64 r]), .int .i64 0]) ∧ P w' := by
  obtain ⟨W1, hW1⟩ : ∃ W1, w.alloc (.cells #[.string ⟨#[112, 111, 105, 110, 116]⟩, .int .i64 h, .slice (some ⟨g, 1, none⟩) 2 cc] 168) = W1 := ⟨_, rfl⟩
  have b1 : Below w.heap.size w W1 := by rw [← hW1]; exact (Below.refl _ _).alloc (Nat.le_refl _) _
  have x1 : W1.heap[w.heap.size]? = some (.cells #[.string ⟨#[112, 111, 105, 110, 116]⟩, .int .i64 h, .slice (some ⟨g, 1, none⟩) 2 cc] 168 (0, 0)) := by rw [← hW1]; exact heap_alloc_at _ rfl
  have A1 := A.below b1
  have q0 : W1.cell? ⟨ag, 0, none⟩ = some (.map (some mb)) := cell_of_heap A1.hd 0 _ rfl
  have y0 : W1.cell? ⟨w.heap.size, 1, none⟩ = some (.int .i64 h) := cell_of_heap x1 1 _ rfl
  have hla := lt_of_block A1.hd
  have hlx := lt_of_block x1
  have HX := Lib.hid (And.intro x1 b1)
  have HU' := Lib.hid HU
  have hsz : W1.heap.size = w.heap.size + 1 := by rw [← hW1]; simp
  have HS := Lib.hid hsz
  clear hsz
  clear b1 x1 HU A
  go_enter Tryz.func82, Tryz.ntmps82
  go_wp2_with fail
  have KA : ∀ w', Below W1.heap.size W1 w' → (Below W1.heap.size W1 w' ∧ w'.cell? ⟨ag, 0, none⟩ = some (.map (some mb)) ∧ w'.cell? ⟨w.heap.size, 1, none⟩ = some (.int .i64 h) ∧ (Instr.lookup 215 (.map (some mb)) (.int .i64 (h : Int)) true).run Tryz.prog w' = .ok (.tuple #[.agg #[.pointer (some ⟨sd h, 0, none⟩), .pointer none], .bool true]) w') :=
    fun w' hb => ⟨hb, (hb.cell (p := ⟨ag, 0, none⟩) hla).trans q0, (hb.cell (p := ⟨w.heap.size, 1, none⟩) hlx).trans y0, (A1.below hb).map.look hn h h1 h2⟩
  go_region_held3 (fun w' => Below W1.heap.size W1 w' ∧ w'.cell? ⟨ag, 0, none⟩ = some (.map (some mb)) ∧ w'.cell? ⟨w.heap.size, 1, none⟩ = some (.int .i64 h) ∧ (Instr.lookup 215 (.map (some mb)) (.int .i64 (h : Int)) true).run Tryz.prog w' = .ok (.tuple #[.agg #[.pointer (some ⟨sd h, 0, none⟩), .pointer none], .bool true]) w')
    (first | (refine KA _ ?_; repeat' (first | exact Below.refl _ _ | refine Below.drew ?_ | refine Below.alloc ?_ (by simp) _ | refine Below.setCell ?_ (by simp) _)))
    (fail)
  all_goals (
    obtain ⟨W2, hW2⟩ : ∃ W2, (W1.alloc (.cells #[.pointer (some ⟨sd h, 0, none⟩), .pointer none] 156)).drew = W2 := ⟨_, rfl⟩
    rw [hW2]
    obtain ⟨x1, b1⟩ := HX.out
    have k2 : Below W1.heap.size W1 W2 := by rw [← hW2]; exact ((Below.refl _ _).alloc (Nat.le_refl _) _).drew
    have z2 : W2.heap[W1.heap.size]? = some (.cells #[.pointer (some ⟨sd h, 0, none⟩), .pointer none] 156 (0, 0)) := by rw [← hW2]; exact heap_alloc_at _ rfl
    have x2 := (k2.block _ hlx).trans x1
    have p0 : W2.cell? ⟨W1.heap.size, 0, none⟩ = some (.pointer (some ⟨sd h, 0, none⟩)) := cell_of_heap z2 0 _ rfl
    have p1 : W2.cell? ⟨W1.heap.size, 1, none⟩ = some (.pointer none) := cell_of_heap z2 1 _ rfl
    have b2 : Below w.heap.size w W2 := b1.trans (k2.mono b1.size)
    have y1 : W2.cell? ⟨w.heap.size, 0, none⟩ = some (.string ⟨#[112, 111, 105, 110, 116]⟩) := cell_of_heap x2 0 _ rfl
    have y2 : W2.cell? ⟨w.heap.size, 2, none⟩ = some (.slice (some ⟨g, 1, none⟩) 2 cc) := cell_of_heap x2 2 _ rfl
    have hx2 := lt_of_block x2
    have hT := Lib.hid fun (w3 : World) => thing_stack (sd h) w3
    have Hb := Lib.hid b2
    clear hW2 x1 b1 k2 z2 x2 b2 A1 q0 y0 hW1
    go_wp2_with fail
    refine (hT.out _).mono ?_
    rintro e w3 ⟨rfl, hb3⟩
    have b3 := Hb.out.trans (hb3.mono Hb.out.size)
    have y1' := (hb3.cell (p := ⟨w.heap.size, 0, none⟩) hx2).trans y1
    have y2' := (hb3.cell (p := ⟨w.heap.size, 2, none⟩) hx2).trans y2
    have hp0' := (b3.cell (p := ⟨g, 1, none⟩) hg).trans hp0
    have hp1' := (b3.cell (p := ⟨g, 2, none⟩) hg).trans hp1
    have hx3 : w.heap.size < w3.heap.size := Nat.lt_of_lt_of_le hx2 hb3.size
    have hg3 : g < w3.heap.size := Nat.lt_of_lt_of_le hg b3.size
    have HB3 := Lib.hid b3
    clear hT hb3 b3 Hb y1 y2 p0 p1 hp0 hp1
    go_wp2_with fail
    have e0 : IntKind.u64.wrap k0 = k0 := by rw [IntKind.wrap_u64]; omega
    have e1 : IntKind.u64.wrap k1 = k1 := by rw [IntKind.wrap_u64]; omega
    clear hk
    refine wp_region_mixA w3.heap.size [0, 1, 2, 3, 4, 5, 6, 7, 8, 9, 10] [11, 12, 13, 14, 15, 16, 17, 18] (by kernel_rfl) (by kernel_rfl) rfl ?_
    simp only [opsAt, List.map_cons, List.map_nil, List.getElem?_toArray, List.getElem?_cons_zero, List.getElem?_cons_succ, Option.getD_some]
    have r0 := fun k : After w3.heap.size w3 => k.cell hx3 y2'
    have r1 := fun k : After w3.heap.size w3 => k.cell hg3 hp0'
    have r2 := fun k : After w3.heap.size w3 => k.cell hg3 hp1'
    repeat (go_big_quiet_step (fail))
    refine wpQuiet_nil ?_
    intro kk
    unfold calmQ
    have kb := kk.h
    clear r0 r1 r2 y1' y2' hp0' hp1'
    obtain ⟨w4, hw4⟩ : ∃ w4, kk.w = w4 := ⟨_, rfl⟩
    rw [hw4] at kb
    rw [hw4]
    clear hw4
    have HC := Lib.hid (HU'.out w4 (HB3.out.trans (kb.mono HB3.out.size)))
    clear HU' kb HB3
    go_wp2_with fail
    refine HC.out.mono ?_
    rintro e w5 ⟨rfl, hP⟩
    have HP := Lib.hid hP
    have HD := Lib.hid (number_any r w5)
    clear HC hP
    go_wp2_with fail
    refine HD.out.mono ?_
    rintro e w6 ⟨rfl, rfl⟩
    go_wp2_with fail
    go_ret2
    exact ⟨rfl, HP.out⟩)
theorem query_range (ag mb n : Nat) (sd : Nat → Nat) (h g cc : Nat) (k0 k1 : Int) (r : Int) (P : World → Prop) (w : World) (A : AggSt w ag mb n sd) (hn : n ≤ 32) (h1 : 1 ≤ h) (h2 : h ≤ n) (hg : g < w.heap.size) (hp0 : w.cell? ⟨g, 1, none⟩ = some (.int .i64 k0)) (hp1 : w.cell? ⟨g, 2, none⟩ = some (.int .i64 k1))
 (hk : (0 ≤ k0 ∧ k0 < 9223372036854775808) ∧ 0 ≤ k1 ∧ k1 < 9223372036854775808)
    (HU : ∀ w1, Below w.heap.size w w1 → Calls Tryz.prog 121 #[.pointer (some ⟨sd h, 0, none⟩), .int .u64 k0, .int .u64 k1] w1 fun e w' => e = .returned (.tuple #[.int .i64 r, .int .i64 0]) ∧ P w') :
    Calls Tryz.prog 82 #[.pointer (some ⟨ag, 0, none⟩), .agg #[.string ⟨#[114, 97, 110, 103, 101]⟩, .int .i64 h, .slice (some ⟨g, 1, none⟩) 2 cc]] w fun e w' => e = .returned (.tuple #[.iface 182 (.agg #[.int .i64 r]), .int .i64 0]) ∧ P w' := by
  obtain ⟨W1, hW1⟩ : ∃ W1, w.alloc (.cells #[.string ⟨#[114, 97, 110, 103, 101]⟩, .int .i64 h, .slice (some ⟨g, 1, none⟩) 2 cc] 168) = W1 := ⟨_, rfl⟩
  have b1 : Below w.heap.size w W1 := by rw [← hW1]; exact (Below.refl _ _).alloc (Nat.le_refl _) _
  have x1 : W1.heap[w.heap.size]? = some (.cells #[.string ⟨#[114, 97, 110, 103, 101]⟩, .int .i64 h, .slice (some ⟨g, 1, none⟩) 2 cc] 168 (0, 0)) := by rw [← hW1]; exact heap_alloc_at _ rfl
  have A1 := A.below b1
  have q0 : W1.cell? ⟨ag, 0, none⟩ = some (.map (some mb)) := cell_of_heap A1.hd 0 _ rfl
  have y0 : W1.cell? ⟨w.heap.size, 1, none⟩ = some (.int .i64 h) := cell_of_heap x1 1 _ rfl
  have hla := lt_of_block A1.hd
  have hlx := lt_of_block x1
  have HX := Lib.hid (And.intro x1 b1)
  have HU' := Lib.hid HU
  have hsz : W1.heap.size = w.heap.size + 1 := by rw [← hW1]; simp
  have HS := Lib.hid hsz
  clear hsz
  clear b1 x1 HU A
  go_enter Tryz.func82, Tryz.ntmps82
  go_wp2_with fail
  have KA : ∀ w', Below W1.heap.size W1 w' → (Below W1.heap.size W1 w' ∧ w'.cell? ⟨ag, 0, none⟩ = some (.map (some mb)) ∧ w'.cell? ⟨w.heap.size, 1, none⟩ = some (.int .i64 h) ∧ (Instr.lookup 215 (.map (some mb)) (.int .i64 (h : Int)) true).run Tryz.prog w' = .ok (.tuple #[.agg #[.pointer (some ⟨sd h, 0, none⟩), .pointer none], .bool true]) w') :=
    fun w' hb => ⟨hb, (hb.cell (p := ⟨ag, 0, none⟩) hla).trans q0, (hb.cell (p := ⟨w.heap.size, 1, none⟩) hlx).trans y0, (A1.below hb).map.look hn h h1 h2⟩
  go_region_held3 (fun w' => Below W1.heap.size W1 w' ∧ w'.cell? ⟨ag, 0, none⟩ = some (.map (some mb)) ∧ w'.cell? ⟨w.heap.size, 1, none⟩ = some (.int .i64 h) ∧ (Instr.lookup 215 (.map (some mb)) (.int .i64 (h : Int)) true).run Tryz.prog w' = .ok (.tuple #[.agg #[.pointer (some ⟨sd h, 0, none⟩), .pointer none], .bool true]) w')
    (first | (refine KA _ ?_; repeat' (first | exact Below.refl _ _ | refine Below.drew ?_ | refine Below.alloc ?_ (by simp) _ | refine Below.setCell ?_ (by simp) _)))
    (fail)
  all_goals (
    obtain ⟨W2, hW2⟩ : ∃ W2, (W1.alloc (.cells #[.pointer (some ⟨sd h, 0, none⟩), .pointer none] 156)).drew = W2 := ⟨_, rfl⟩
    rw [hW2]
    obtain ⟨x1, b1⟩ := HX.out
    have k2 : Below W1.heap.size W1 W2 := by rw [← hW2]; exact ((Below.refl _ _).alloc (Nat.le_refl _) _).drew
    have z2 : W2.heap[W1.heap.size]? = some (.cells #[.pointer (some ⟨sd h, 0, none⟩), .pointer none] 156 (0, 0)) := by rw [← hW2]; exact heap_alloc_at _ rfl
    have x2 := (k2.block _ hlx).trans x1
    have p0 : W2.cell? ⟨W1.heap.size, 0, none⟩ = some (.pointer (some ⟨sd h, 0, none⟩)) := cell_of_heap z2 0 _ rfl
    have p1 : W2.cell? ⟨W1.heap.size, 1, none⟩ = some (.pointer none) := cell_of_heap z2 1 _ rfl
    have b2 : Below w.heap.size w W2 := b1.trans (k2.mono b1.size)
    have y1 : W2.cell? ⟨w.heap.size, 0, none⟩ = some (.string ⟨#[114, 97, 110, 103, 101]⟩) := cell_of_heap x2 0 _ rfl
    have y2 : W2.cell? ⟨w.heap.size, 2, none⟩ = some (.slice (some ⟨g, 1, none⟩) 2 cc) := cell_of_heap x2 2 _ rfl
    have hx2 := lt_of_block x2
    have hT := Lib.hid fun (w3 : World) => thing_stack (sd h) w3
    have Hb := Lib.hid b2
    clear hW2 x1 b1 k2 z2 x2 b2 A1 q0 y0 hW1
    go_wp2_with fail
    refine (hT.out _).mono ?_
    rintro e w3 ⟨rfl, hb3⟩
    have b3 := Hb.out.trans (hb3.mono Hb.out.size)
    have y1' := (hb3.cell (p := ⟨w.heap.size, 0, none⟩) hx2).trans y1
    have y2' := (hb3.cell (p := ⟨w.heap.size, 2, none⟩) hx2).trans y2
    have hp0' := (b3.cell (p := ⟨g, 1, none⟩) hg).trans hp0
    have hp1' := (b3.cell (p := ⟨g, 2, none⟩) hg).trans hp1
    have hx3 : w.heap.size < w3.heap.size := Nat.lt_of_lt_of_le hx2 hb3.size
    have hg3 : g < w3.heap.size := Nat.lt_of_lt_of_le hg b3.size
    have HB3 := Lib.hid b3
    clear hT hb3 b3 Hb y1 y2 p0 p1 hp0 hp1
    go_wp2_with fail
    have e0 : IntKind.u64.wrap k0 = k0 := by rw [IntKind.wrap_u64]; omega
    have e1 : IntKind.u64.wrap k1 = k1 := by rw [IntKind.wrap_u64]; omega
    clear hk
    refine wp_region_mixA w3.heap.size [0, 1, 2, 3, 4, 5, 6, 7, 8, 9, 10] [11, 12, 13, 14, 15, 16, 17, 18] (by kernel_rfl) (by kernel_rfl) rfl ?_
    simp only [opsAt, List.map_cons, List.map_nil, List.getElem?_toArray, List.getElem?_cons_zero, List.getElem?_cons_succ, Option.getD_some]
    have r0 := fun k : After w3.heap.size w3 => k.cell hx3 y2'
    have r1 := fun k : After w3.heap.size w3 => k.cell hg3 hp0'
    have r2 := fun k : After w3.heap.size w3 => k.cell hg3 hp1'
    repeat (go_big_quiet_step (fail))
    refine wpQuiet_nil ?_
    intro kk
    unfold calmQ
    have kb := kk.h
    clear r0 r1 r2 y1' y2' hp0' hp1'
    obtain ⟨w4, hw4⟩ : ∃ w4, kk.w = w4 := ⟨_, rfl⟩
    rw [hw4] at kb
    rw [hw4]
    clear hw4
    have HC := Lib.hid (HU'.out w4 (HB3.out.trans (kb.mono HB3.out.size)))
    clear HU' kb HB3
    go_wp2_with fail
    refine HC.out.mono ?_
    rintro e w5 ⟨rfl, hP⟩
    have HP := Lib.hid hP
    have HD := Lib.hid (number_any r w5)
    clear HC hP
    go_wp2_with fail
    refine HD.out.mono ?_
    rintro e w6 ⟨rfl, rfl⟩
    go_wp2_with fail
    go_ret2
    exact ⟨rfl, HP.out⟩)
end Go.Proofs.YtbhppbeepmllaaaGreatDoor
