import Derived.Test.YtbhppbeepmllaaaGreatDoorM5a42addf
set_option linter.unusedVariables false
set_option linter.unusedSimpArgs false
set_option maxRecDepth 100000
set_option maxHeartbeats 2000000
namespace Go.Proofs.YtbhppbeepmllaaaGreatDoor
open Go.RowKit

theorem aJoin_no (a1 g1 cb1 cap1 a2 g2 cb2 cap2 : Nat) (c : Cfg) (l : Nat) (xs ys : List Int) (w : World) (S : ArrOk w a1 g1 cb1 cap1 c l xs) (T : ArrOk w a2 g2 cb2 cap2 c l ys) :
  Calls Tryz.prog 239 #[.pointer (some ⟨a1, 0, none⟩), .pointer (some ⟨a2, 0, none⟩), (.func (.func 240) #[] #[]), .bool false] w fun e w' => e = .returned (.int .i64 3) ∧ Below w.heap.size w w' := by
 have q0 : w.cell? ⟨a1, 0, none⟩ = some (.int .i64 c.b) := by simp [World.cell?, S.hd]
 have q1 : w.cell? ⟨a1, 1, none⟩ = some (.int .i64 c.r) := by simp [World.cell?, S.hd]
 have q2 : w.cell? ⟨a1, 2, none⟩ = some (.int .i64 c.wd) := by simp [World.cell?, S.hd]
 have q3 : w.cell? ⟨a1, 3, none⟩ = some (.int .i64 c.m) := by simp [World.cell?, S.hd]
 have q4 : w.cell? ⟨a1, 4, none⟩ = some (.int .u64 c.s) := by simp [World.cell?, S.hd]
 have q5 : w.cell? ⟨a1, 5, none⟩ = some (.int .i64 l) := by simp [World.cell?, S.hd]
 have q6 : w.cell? ⟨a1, 6, none⟩ = some (.pointer (some ⟨g1, 0, none⟩)) := by simp [World.cell?, S.hd]
 have p0 : w.cell? ⟨a2, 0, none⟩ = some (.int .i64 c.b) := by simp [World.cell?, T.hd]
 have p1 : w.cell? ⟨a2, 1, none⟩ = some (.int .i64 c.r) := by simp [World.cell?, T.hd]
 have p2 : w.cell? ⟨a2, 2, none⟩ = some (.int .i64 c.wd) := by simp [World.cell?, T.hd]
 have p3 : w.cell? ⟨a2, 3, none⟩ = some (.int .i64 c.m) := by simp [World.cell?, T.hd]
 have p4 : w.cell? ⟨a2, 4, none⟩ = some (.int .u64 c.s) := by simp [World.cell?, T.hd]
 have p5 : w.cell? ⟨a2, 5, none⟩ = some (.int .i64 l) := by simp [World.cell?, T.hd]
 have p6 : w.cell? ⟨a2, 6, none⟩ = some (.pointer (some ⟨g2, 0, none⟩)) := by simp [World.cell?, T.hd]
 go_enter Tryz.func239, Tryz.ntmps239
 go_wp2_with fail
 go_quiet (fail)
 go_wp2
 go_ret
 exact ⟨rfl, below_drewN (Below.refl w.heap.size w) _⟩
theorem aSub_no (a1 g1 cb1 cap1 a2 g2 cb2 cap2 : Nat) (c : Cfg) (l : Nat) (xs ys : List Int) (w : World) (S : ArrOk w a1 g1 cb1 cap1 c l xs) (T : ArrOk w a2 g2 cb2 cap2 c l ys) (hm : c.m = 2) :
  Calls Tryz.prog 211 #[.pointer (some ⟨a1, 0, none⟩), .pointer (some ⟨a2, 0, none⟩)] w fun e w' => e = .returned (.int .i64 3) ∧ Below w.heap.size w w' := by
 have q0 : w.cell? ⟨a1, 0, none⟩ = some (.int .i64 c.b) := by simp [World.cell?, S.hd]
 have q1 : w.cell? ⟨a1, 1, none⟩ = some (.int .i64 c.r) := by simp [World.cell?, S.hd]
 have q2 : w.cell? ⟨a1, 2, none⟩ = some (.int .i64 c.wd) := by simp [World.cell?, S.hd]
 have q3 : w.cell? ⟨a1, 3, none⟩ = some (.int .i64 c.m) := by simp [World.cell?, S.hd]
 have q4 : w.cell? ⟨a1, 4, none⟩ = some (.int .u64 c.s) := by simp [World.cell?, S.hd]
 have q5 : w.cell? ⟨a1, 5, none⟩ = some (.int .i64 l) := by simp [World.cell?, S.hd]
 have q6 : w.cell? ⟨a1, 6, none⟩ = some (.pointer (some ⟨g1, 0, none⟩)) := by simp [World.cell?, S.hd]
 have HJ := Lib.hid (aJoin_no a1 g1 cb1 cap1 a2 g2 cb2 cap2 c l xs ys w S T)
 rw [hm] at q3
 go_enter Tryz.func211, Tryz.ntmps211
 go_wp2_with fail
 refine HJ.out.mono ?_
 rintro e w3 ⟨rfl, hb⟩
 go_wp2
 go_ret
 exact ⟨rfl, hb⟩
theorem skSub_no (s1 g1 cb1 cap1 s2 g2 cb2 cap2 : Nat) (c : Cfg) (l : Nat) (xs ys : List Int) (w : World) (S : SketchOk w s1 g1 cb1 cap1 c l xs) (T : SketchOk w s2 g2 cb2 cap2 c l ys) (hm : c.m = 2) :
  Calls Tryz.prog 210 #[.pointer (some ⟨s1, 0, none⟩), .pointer (some ⟨s2, 0, none⟩)] w fun e w' => e = .returned (.int .i64 3) ∧ Below w.heap.size w w' := by
 have HA := Lib.hid (alike_any s1 g1 cb1 cap1 s2 g2 cb2 cap2 c l xs ys w S T)
 go_enter Tryz.func210, Tryz.ntmps210
 go_wp2_with fail
 refine HA.out.mono ?_
 rintro e w1 ⟨rfl, hb⟩
 have S1 := S.below hb S.lt.1 S.lt.2.1 S.lt.2.2
 have q0 : w1.cell? ⟨s1, 0, none⟩ = some (.pointer (some ⟨g1, 0, none⟩)) := by simp [World.cell?, S1.hd]
 have q1 : w1.cell? ⟨s1, 1, none⟩ = some (.int .i64 c.b) := by simp [World.cell?, S1.hd]
 have q2 : w1.cell? ⟨s1, 2, none⟩ = some (.int .i64 c.r) := by simp [World.cell?, S1.hd]
 have q3 : w1.cell? ⟨s1, 3, none⟩ = some (.int .i64 c.wd) := by simp [World.cell?, S1.hd]
 have q4 : w1.cell? ⟨s1, 4, none⟩ = some (.int .i64 c.m) := by simp [World.cell?, S1.hd]
 have q5 : w1.cell? ⟨s1, 5, none⟩ = some (.int .u64 c.s) := by simp [World.cell?, S1.hd]
 have q6 : w1.cell? ⟨s1, 6, none⟩ = some (.int .i64 l) := by simp [World.cell?, S1.hd]
 rw [hm] at q4
 go_wp2
 go_ret
 exact ⟨rfl, hb⟩
theorem lvSub_no_arr (v u : Lv) (c : Cfg) (l : Nat) (xs ys : List Int) (w : World) (S : LevelOk w v c l xs) (T : LevelOk w u c l ys) (he : c.keys l ≤ c.wd) (hm : c.m = 2) :
  Calls Tryz.prog 169 #[.iface 259 (.pointer (some ⟨v.a, 0, none⟩)), .iface 259 (.pointer (some ⟨u.a, 0, none⟩))] w fun e w' => e = .returned (.int .i64 3) ∧ Below w.heap.size w w' := by
 have HS := Lib.hid (sketches_arr v.a u.a w)
 have HA := Lib.hid (arrays_arr v.a u.a w)
 have HC := Lib.hid (aSub_no v.a v.g v.cb v.cap u.a u.g u.cb u.cap c l xs ys w (S.arr he) (T.arr he) hm)
 clear he hm
 go_enter Tryz.func169, Tryz.ntmps169
 go_wp2_with fail
 refine HS.out.mono ?_
 rintro e w2 ⟨rfl, rfl⟩
 go_wp2_with fail
 refine HA.out.mono ?_
 rintro e w2 ⟨rfl, rfl⟩
 go_wp2_with fail
 refine HC.out.mono ?_
 rintro e w2 ⟨rfl, hb⟩
 go_wp2_with fail
 go_ret
 exact ⟨rfl, hb⟩
theorem lvSub_no_sk (v u : Lv) (c : Cfg) (l : Nat) (xs ys : List Int) (w : World) (S : LevelOk w v c l xs) (T : LevelOk w u c l ys) (he : ¬ c.keys l ≤ c.wd) (hm : c.m = 2) :
  Calls Tryz.prog 169 #[.iface 262 (.pointer (some ⟨v.a, 0, none⟩)), .iface 262 (.pointer (some ⟨u.a, 0, none⟩))] w fun e w' => e = .returned (.int .i64 3) ∧ Below w.heap.size w w' := by
 have HS := Lib.hid (sketches_sk v.a u.a w)
 have HC := Lib.hid (skSub_no v.a v.g v.cb v.cap u.a u.g u.cb u.cap c l xs ys w (S.sk he) (T.sk he) hm)
 clear he hm
 go_enter Tryz.func169, Tryz.ntmps169
 go_wp2_with fail
 refine HS.out.mono ?_
 rintro e w2 ⟨rfl, rfl⟩
 go_wp2_with fail
 refine HC.out.mono ?_
 rintro e w2 ⟨rfl, hb⟩
 go_wp2_with fail
 go_ret
 exact ⟨rfl, hb⟩
theorem mAll169_no (sa la ca sb lb cb : Nat) (va vb : Nat → Lv) (c : Cfg) (xs ys : Nat → List Int) (w : World) (S : StackOk w sa la ca va c xs) (T : StackOk w sb lb cb vb c ys) (R : c.Ok) (hm : c.m = 2) :
  Calls Tryz.prog 168 #[.agg #[.func (.func 169) #[] #[]], .pointer (some ⟨sa, 0, none⟩), .pointer (some ⟨sb, 0, none⟩)] w fun e w' => e = .returned (.int .i64 3) ∧ Below w.heap.size w w' := by
 have hb0 : Below w.heap.size w (w.alloc (.cells #[.func (.func 169) #[] #[]] 293)) := (Below.refl _ _).alloc (Nat.le_refl _) _
 have HK := Lib.hid (mAlike_any sa la ca sb lb cb va vb c xs ys _ (S.below hb0) (T.below hb0))
 go_enter Tryz.func168, Tryz.ntmps168
 go_wp2_with fail
 go_step3
 go_wp2_with fail
 refine HK.out.mono ?_
 rintro e w1 ⟨rfl, hb⟩
 have k1 := below_alloc hb
 have hx1 : w1.heap[w.heap.size]? = some (.cells #[.func (.func 169) #[] #[]] 293 (0, 0)) := (hb.block _ (by simp)).trans (heap_alloc_at _ rfl)
 have HG := Lib.hid (stConfig_any sa la ca va c xs w1 (S.below k1))
 clear hb hb0 HK
 go_wp2_with fail
 go_step3
 go_wp2_with fail
 refine HG.out.mono ?_
 rintro e w2 ⟨rfl, hb⟩
 have k2 := k1.trans (hb.mono k1.size)
 have hx2 := (hb.block _ (lt_of_block hx1)).trans hx1
 clear hb HG hx1 k1
 have hcf := fun w => cfgBits c.b c.r c.wd c.m c.s w
 have HM := Lib.hid hm
 clear hm
 have hd0 : decide ((0 : Int) < (c.b : Int) + 1) = true := by rw [decide_eq_true_eq]; omega
 by_cases he : c.keys 0 ≤ c.wd
 ·skip
  have HA := Lib.hid (stAt_any sa la ca va c xs _ (S.below k2) R 0 (by omega))
  have hb1 := R.b1
  have hb2' := R.b2
  rw [c.lt_arr he] at HA
  go_wp2_with fail
  refine wp_loop_rounds 1 ?_
  rw [rounds_succ]
  go_wp2_with fail
  refine HA.out.mono ?_
  rintro e w3 ⟨⟨v, rfl, hv⟩, hb3⟩
  clear HA
  have k3 := k2.trans (hb3.mono k2.size)
  have hx3 := (hb3.block _ (lt_of_block hx2)).trans hx2
  have HV := Lib.hid hv.ok
  have HB := Lib.hid (stAt_any sb lb cb vb c ys _ (T.below k3) R 0 (by omega))
  rw [c.lt_arr he] at HB
  clear hb3 hv hx2 k2
  go_wp2_with fail
  refine HB.out.mono ?_
  rintro e w4 ⟨⟨u, rfl, hu⟩, hb4⟩
  clear HB
  have k4 := k3.trans (hb4.mono k3.size)
  have hx4 := (hb4.block _ (lt_of_block hx3)).trans hx3
  have q4 : w4.cell? ⟨w.heap.size, 0, none⟩ = some (.func (.func 169) #[] #[]) := cell_of_heap hx4 0 _ rfl
  have HJ := Lib.hid (lvSub_no_arr v u c 0 _ _ _ (HV.out.below hb4 HV.out.lt.1 HV.out.lt.2.1 HV.out.lt.2.2) hu.ok he HM.out)
  clear hb4 hu hx3 hx4 k3 HV he HM
  go_wp2_with fail
  refine HJ.out.mono ?_
  rintro e w5 ⟨rfl, hb5⟩
  go_wp2
  rw [Exit.noGoto_ret]
  go_ret
  exact ⟨rfl, k4.trans (hb5.mono k4.size)⟩
 ·skip
  have HA := Lib.hid (stAt_any sa la ca va c xs _ (S.below k2) R 0 (by omega))
  have hb1 := R.b1
  have hb2' := R.b2
  rw [c.lt_sk he] at HA
  go_wp2_with fail
  refine wp_loop_rounds 1 ?_
  rw [rounds_succ]
  go_wp2_with fail
  refine HA.out.mono ?_
  rintro e w3 ⟨⟨v, rfl, hv⟩, hb3⟩
  clear HA
  have k3 := k2.trans (hb3.mono k2.size)
  have hx3 := (hb3.block _ (lt_of_block hx2)).trans hx2
  have HV := Lib.hid hv.ok
  have HB := Lib.hid (stAt_any sb lb cb vb c ys _ (T.below k3) R 0 (by omega))
  rw [c.lt_sk he] at HB
  clear hb3 hv hx2 k2
  go_wp2_with fail
  refine HB.out.mono ?_
  rintro e w4 ⟨⟨u, rfl, hu⟩, hb4⟩
  clear HB
  have k4 := k3.trans (hb4.mono k3.size)
  have hx4 := (hb4.block _ (lt_of_block hx3)).trans hx3
  have q4 : w4.cell? ⟨w.heap.size, 0, none⟩ = some (.func (.func 169) #[] #[]) := cell_of_heap hx4 0 _ rfl
  have HJ := Lib.hid (lvSub_no_sk v u c 0 _ _ _ (HV.out.below hb4 HV.out.lt.1 HV.out.lt.2.1 HV.out.lt.2.2) hu.ok he HM.out)
  clear hb4 hu hx3 hx4 k3 HV he HM
  go_wp2_with fail
  refine HJ.out.mono ?_
  rintro e w5 ⟨rfl, hb5⟩
  go_wp2
  rw [Exit.noGoto_ret]
  go_ret
  exact ⟨rfl, k4.trans (hb5.mono k4.size)⟩

theorem stMerge_any (sa la ca sb lb cb : Nat) (va vb : Nat → Lv) (c : Cfg) (xs ys : Nat → List Int) (w : World) (S : StackOk w sa la ca va c xs) (T : StackOk w sb lb cb vb c ys) (R : c.Ok) (hx : ∀ l, l ≤ c.b → Small (xs l)) (hy : ∀ l, l ≤ c.b → Small (ys l)) :
  Calls Tryz.prog 125 #[.pointer (some ⟨sa, 0, none⟩), .pointer (some ⟨sb, 0, none⟩)] w fun e w' => e = .returned (.int .i64 0) ∧ StackOk w' sa la ca va c (fun l => if l < c.b + 1 then zipI (· + ·) (xs l) (ys l) else xs l) ∧ Upd (cellsOf c va) w w' := by
 have H := Lib.hid (mAll167_any sa la ca sb lb cb va vb c _ xs ys w S T R (joins_merge c R xs ys hx hy))
 go_enter Tryz.func125, Tryz.ntmps125
 go_wp2_with fail
 refine H.out.mono ?_
 rintro e w1 ⟨rfl, hS, hU⟩
 have HS := Lib.hid hS
 clear hS
 go_wp2
 go_ret
 exact ⟨rfl, HS.out, hU⟩
theorem stSub_any (sa la ca sb lb cb : Nat) (va vb : Nat → Lv) (c : Cfg) (xs ys : Nat → List Int) (w : World) (S : StackOk w sa la ca va c xs) (T : StackOk w sb lb cb vb c ys) (R : c.Ok) (hx : ∀ l, l ≤ c.b → Small (xs l)) (hy : ∀ l, l ≤ c.b → Small (ys l)) (hm : c.m ≠ 2) :
  Calls Tryz.prog 126 #[.pointer (some ⟨sa, 0, none⟩), .pointer (some ⟨sb, 0, none⟩)] w fun e w' => e = .returned (.int .i64 0) ∧ StackOk w' sa la ca va c (fun l => if l < c.b + 1 then zipI (· - ·) (xs l) (ys l) else xs l) ∧ Upd (cellsOf c va) w w' := by
 have H := Lib.hid (mAll169_any sa la ca sb lb cb va vb c _ xs ys w S T R (joins_sub c R xs ys hx hy hm))
 go_enter Tryz.func126, Tryz.ntmps126
 go_wp2_with fail
 refine H.out.mono ?_
 rintro e w1 ⟨rfl, hS, hU⟩
 have HS := Lib.hid hS
 clear hS
 go_wp2
 go_ret
 exact ⟨rfl, HS.out, hU⟩
theorem stSub_no (sa la ca sb lb cb : Nat) (va vb : Nat → Lv) (c : Cfg) (xs ys : Nat → List Int) (w : World) (S : StackOk w sa la ca va c xs) (T : StackOk w sb lb cb vb c ys) (R : c.Ok) (hm : c.m = 2) :
  Calls Tryz.prog 126 #[.pointer (some ⟨sa, 0, none⟩), .pointer (some ⟨sb, 0, none⟩)] w fun e w' => e = .returned (.int .i64 3) ∧ Below w.heap.size w w' := by
 have H := Lib.hid (mAll169_no sa la ca sb lb cb va vb c xs ys w S T R hm)
 go_enter Tryz.func126, Tryz.ntmps126
 go_wp2_with fail
 refine H.out.mono ?_
 rintro e w1 ⟨rfl, hb⟩
 go_wp2
 go_ret
 exact ⟨rfl, hb⟩
end Go.Proofs.YtbhppbeepmllaaaGreatDoor

namespace Go.Proofs.YtbhppbeepmllaaaGreatDoor
open Go.RowKit

theorem wide_cells {w : World} {b : Nat} {u v : Value} {t : TypeId} (h : w.heap[b]? = some (.cells #[u, v] t (0, 0))) (x y : Value) : (w.setCell ⟨b, 0, none⟩ x).cell? ⟨b, 0, none⟩ = some x ∧ ((w.setCell ⟨b, 0, none⟩ x).setCell ⟨b, 1, none⟩ y).cell? ⟨b, 1, none⟩ = some y ∧ ((w.setCell ⟨b, 0, none⟩ x).setCell ⟨b, 1, none⟩ y).cell? ⟨b, 0, none⟩ = some x :=
 ⟨by simp [World.cell?, heap_setCell_same _ _ 0 _ _ _ h], cell_of_heap (two_set h x y) 1 _ rfl, cell_of_heap (two_set h x y) 0 _ rfl⟩
structure InnerOk (c : Cfg) (xs ys : List Int) : Prop where
 sx : ∀ x ∈ xs, -2147483648 ≤ x ∧ x ≤ 2147483648
 sy : ∀ x ∈ ys, -2147483648 ≤ x ∧ x ≤ 2147483648
 dot : c.keys 0 ≤ c.wd → ∀ k, -2305843009213693952 ≤ dotK xs ys k ∧ dotK xs ys k ≤ 2305843009213693952
 rows : ¬ c.keys 0 ≤ c.wd → ∀ row k, -2305843009213693952 ≤ dotK (rowL c.wd xs row) (rowL c.wd ys row) k ∧ dotK (rowL c.wd xs row) (rowL c.wd ys row) k ≤ 2305843009213693952
theorem stInner_any (sa la ca sb lb cb : Nat) (va vb : Nat → Lv) (c : Cfg) (xs ys : Nat → List Int) (w : World) (S : StackOk w sa la ca va c xs) (T : StackOk w sb lb cb vb c ys) (R : c.Ok) (hm : c.m = 1) (H : InnerOk c (xs 0) (ys 0)) :
  Calls Tryz.prog 124 #[.pointer (some ⟨sa, 0, none⟩), .pointer (some ⟨sb, 0, none⟩)] w fun e w' => e = .returned (.tuple #[wv (c.inner 0 (xs 0) (ys 0)), .int .i64 0]) ∧ Below w.heap.size w w' := by
 have hb0 : Below w.heap.size w (w.alloc (.cells #[.int .i64 0, .int .u64 0] 188)) := (Below.refl _ _).alloc (Nat.le_refl _) _
 have HK := Lib.hid (mAlike_any sa la ca sb lb cb va vb c xs ys _ (S.below hb0) (T.below hb0))
 rw [wv_eq]
 by_cases he : c.keys 0 ≤ c.wd
 ·skip
  have HA := Lib.hid fun w S => stAt_any sa la ca va c xs w S R 0 (by omega)
  have HB := Lib.hid fun w S => stAt_any sb lb cb vb c ys w S R 0 (by omega)
  rw [c.lt_arr he] at HA HB
  go_enter Tryz.func124, Tryz.ntmps124
  go_wp2_with fail
  refine HK.out.mono ?_
  rintro e w1 ⟨rfl, hb⟩
  have k1 := below_alloc hb
  have hx1 : w1.heap[w.heap.size]? = some (.cells #[.int .i64 0, .int .u64 0] 188 (0, 0)) := (hb.block _ (by simp)).trans (heap_alloc_at _ rfl)
  go_wp2_with fail
  refine (HA.out _ (S.below k1)).mono ?_
  rintro e w2 ⟨⟨v, rfl, hv⟩, hb2⟩
  have k2 := k1.trans (hb2.mono k1.size)
  have hx2 := (hb2.block _ (lt_of_block hx1)).trans hx1
  have HV := Lib.hid hv.ok
  clear hv
  go_wp2_with fail
  refine (HB.out _ (T.below k2)).mono ?_
  rintro e w3 ⟨⟨u, rfl, hu⟩, hb3⟩
  have k3 := k2.trans (hb3.mono k2.size)
  have hx3 := (hb3.block _ (lt_of_block hx2)).trans hx2
  have HI := Lib.hid (lvInner_arr v u c 0 _ _ _ R (HV.out.below hb3 HV.out.lt.1 HV.out.lt.2.1 HV.out.lt.2.2) hu.ok he hm H.sx H.sy (H.dot he))
  rw [wv_eq] at HI
  clear hu hb3 hb2 k1 k2 hx1 hx2 HA HB HK HV he hm
  go_wp2_with fail
  refine HI.out.mono ?_
  rintro e w4 ⟨rfl, hb4⟩
  have k4 := k3.trans (hb4.mono k3.size)
  have hx4 := (hb4.block _ (lt_of_block hx3)).trans hx3
  have p0 : w4.cell? ⟨w.heap.size, 0, none⟩ = some (.int .i64 0) := cell_of_heap hx4 0 _ rfl
  have p1 : w4.cell? ⟨w.heap.size, 1, none⟩ = some (.int .u64 0) := cell_of_heap hx4 1 _ rfl
  have f0 : w4.frozen? ⟨w.heap.size, 0, none⟩ = false := by simp [World.frozen?, hx4]
  have f1 : w4.frozen? ⟨w.heap.size, 1, none⟩ = false := by simp [World.frozen?, hx4]
  have hl4 := lt_of_block hx4
  obtain ⟨s0, s1, s2⟩ := wide_cells hx4 (.int .i64 (wvh (c.inner 0 (xs 0) (ys 0)))) (.int .u64 (wvl (c.inner 0 (xs 0) (ys 0))))
  clear HI hb4 k3 hx3 hx4
  go_wp2_with fail
  exact bodyPost_ret (v := .tuple #[.agg #[.int .i64 (wvh (c.inner 0 (xs 0) (ys 0))), .int .u64 (wvl (c.inner 0 (xs 0) (ys 0)))], .int .i64 0]) (by simp [results, Tryz.results124, go_sem, s0, s1, s2]) rfl ⟨rfl, (k4.setCell (Nat.le_refl _) _).setCell (Nat.le_refl _) _⟩
 ·skip
  have HA := Lib.hid fun w S => stAt_any sa la ca va c xs w S R 0 (by omega)
  have HB := Lib.hid fun w S => stAt_any sb lb cb vb c ys w S R 0 (by omega)
  rw [c.lt_sk he] at HA HB
  go_enter Tryz.func124, Tryz.ntmps124
  go_wp2_with fail
  refine HK.out.mono ?_
  rintro e w1 ⟨rfl, hb⟩
  have k1 := below_alloc hb
  have hx1 : w1.heap[w.heap.size]? = some (.cells #[.int .i64 0, .int .u64 0] 188 (0, 0)) := (hb.block _ (by simp)).trans (heap_alloc_at _ rfl)
  go_wp2_with fail
  refine (HA.out _ (S.below k1)).mono ?_
  rintro e w2 ⟨⟨v, rfl, hv⟩, hb2⟩
  have k2 := k1.trans (hb2.mono k1.size)
  have hx2 := (hb2.block _ (lt_of_block hx1)).trans hx1
  have HV := Lib.hid hv.ok
  clear hv
  go_wp2_with fail
  refine (HB.out _ (T.below k2)).mono ?_
  rintro e w3 ⟨⟨u, rfl, hu⟩, hb3⟩
  have k3 := k2.trans (hb3.mono k2.size)
  have hx3 := (hb3.block _ (lt_of_block hx2)).trans hx2
  have HI := Lib.hid (lvInner_sk v u c 0 _ _ _ R (HV.out.below hb3 HV.out.lt.1 HV.out.lt.2.1 HV.out.lt.2.2) hu.ok he hm H.sx H.sy (H.rows he))
  rw [wv_eq] at HI
  clear hu hb3 hb2 k1 k2 hx1 hx2 HA HB HK HV he hm
  go_wp2_with fail
  refine HI.out.mono ?_
  rintro e w4 ⟨rfl, hb4⟩
  have k4 := k3.trans (hb4.mono k3.size)
  have hx4 := (hb4.block _ (lt_of_block hx3)).trans hx3
  have p0 : w4.cell? ⟨w.heap.size, 0, none⟩ = some (.int .i64 0) := cell_of_heap hx4 0 _ rfl
  have p1 : w4.cell? ⟨w.heap.size, 1, none⟩ = some (.int .u64 0) := cell_of_heap hx4 1 _ rfl
  have f0 : w4.frozen? ⟨w.heap.size, 0, none⟩ = false := by simp [World.frozen?, hx4]
  have f1 : w4.frozen? ⟨w.heap.size, 1, none⟩ = false := by simp [World.frozen?, hx4]
  have hl4 := lt_of_block hx4
  obtain ⟨s0, s1, s2⟩ := wide_cells hx4 (.int .i64 (wvh (c.inner 0 (xs 0) (ys 0)))) (.int .u64 (wvl (c.inner 0 (xs 0) (ys 0))))
  clear HI hb4 k3 hx3 hx4
  go_wp2_with fail
  exact bodyPost_ret (v := .tuple #[.agg #[.int .i64 (wvh (c.inner 0 (xs 0) (ys 0))), .int .u64 (wvl (c.inner 0 (xs 0) (ys 0)))], .int .i64 0]) (by simp [results, Tryz.results124, go_sem, s0, s1, s2]) rfl ⟨rfl, (k4.setCell (Nat.le_refl _) _).setCell (Nat.le_refl _) _⟩
end Go.Proofs.YtbhppbeepmllaaaGreatDoor

namespace Go.Proofs.YtbhppbeepmllaaaGreatDoor
open Go.RowKit

theorem own_succ' {W : World} {base : Nat} {e : TypeId} {size : Nat} {v : Value} {k : Nat} {xs : List Value} (h : W.ownsRow base e size v (k + 1) xs) : ∃ g cap, v = .slice (some ⟨g, 0, none⟩) (k + 1) cap := own_succ h
theorem clonePc_any (b n cap : Nat) (l : List Pc) (w : World) (hn : 0 < n) (hl : l.length = n) (hn2 : n ≤ 1000) (hlt : b < w.heap.size) (hcell : ∀ j u, (pcs l)[j]? = some u → w.cell? ⟨b, j, none⟩ = some u) :
  Calls Tryz.prog 199 #[.slice (some ⟨b, 0, none⟩) n cap] w fun e w' => (∃ g c, e = .returned (.slice (some ⟨g, 0, none⟩) n c) ∧ w'.ownsRow w.heap.size 55 2 (.slice (some ⟨g, 0, none⟩) n c) n (pcs l)) ∧ Below w.heap.size w w' := by
 have heq : ∀ w, _ := fun w => Lib.run_eql_slice_nil (P := Tryz.prog) (w := w) 62 55 (some ⟨b, 0, none⟩) n cap 0 0 Tryz.underlying62
 obtain ⟨i0, hi, hz0, hz1, hz2⟩ := info_parts Tryz.info55
 have hc2 : ∀ j u, (pcs l)[j]? = some u → (w.alloc (.cells #[] 55)).cell? ((⟨b, 0, none⟩ : Addr).add j) = some u := fun j u hu => by
  have h1 := hcell j u hu
  have h2 := ((Below.refl w.heap.size w).alloc (Nat.le_refl _) (.cells #[] 55)).cell (p := ⟨b, j, none⟩) hlt
  have e : (⟨b, 0, none⟩ : Addr).add j = ⟨b, j, none⟩ := by unfold Addr.add; split <;> simp_all
  rw [e]; exact h2.trans h1
 have hl2 : (pcs l).length = n * 2 := by rw [pcs_len, hl]
 have HC := Lib.hid hc2; have HL := Lib.hid hl2; have H1 := Lib.hid (pcs_one l)
 clear hcell hl hc2 hl2
 go_enter Tryz.func199, Tryz.ntmps199
 go_wp2_with (at_builtin; refine wpList_append_own _ rfl (.tmp 5) (.tmp 6) 62 rfl w.heap.size 55 i0 (.agg #[.int .i64 0, .int .u64 0]) 2 16 Tryz.underlying62 hi hz0 hz1 hz2 rfl (by decide) _ _ _ rfl (World.ownsRow_lit w #[] 0 (Nat.le_refl _) (by simp [maxLen]) rfl) ⟨b, 0, none⟩ n cap (pcs l) rfl HL.out HC.out H1.out (by unfold maxLen; omega) (by omega) (by simp) ?_; intro v' w1 hown hgrow hnil)
 simp only [List.nil_append, Nat.zero_add] at hown
 obtain ⟨m, rfl⟩ : ∃ m, n = m + 1 := ⟨n - 1, by omega⟩
 obtain ⟨g, c, hv⟩ := own_succ' hown
 subst hv
 go_ret
 exact ⟨⟨g, c, rfl, hown⟩, ((Below.refl _ _).alloc (Nat.le_refl _) _).grown hgrow (by simp) (fun k e => by have e' : some w.heap.size = some k := e; cases e'; exact Nat.le_refl _)⟩
def wayI (told : Nat → Nat → Int) : Nat → Nat → Int → Nat
 | 0, i, _ => i
 | L + 1, i, k => if k ≤ told L (2 * i) then wayI told L (2 * i) k else wayI told L (2 * i + 1) (k - told L (2 * i))
theorem arr_set {W : World} {b : Nat} {L : List Pc} (h : W.heap[b]? = some (.cells (pcs L).toArray 336 (0, 0))) (i : Nat) (p : Pc) :
  ((W.setCell ⟨b, i * 2, none⟩ (.int .i64 p.1)).setCell ⟨b, i * 2 + 1, none⟩ (.int .u64 p.2)).heap[b]? = some (.cells (pcs (L.set i p)).toArray 336 (0, 0)) := by
 have h1 := heap_setCell_same W b (i * 2) _ _ (.int .i64 p.1) h
 have h2 := heap_setCell_same _ b (i * 2 + 1) _ _ (.int .u64 p.2) h1
 rw [h2, ← pcs_set]
 simp
theorem arr_at {W : World} {b : Nat} {L : List Pc} (h : W.heap[b]? = some (.cells (pcs L).toArray 336 (0, 0))) {i : Nat} {p : Pc} (hi : L[i]? = some p) :
  W.cell? ⟨b, i * 2, none⟩ = some (.int .i64 p.1) ∧ W.cell? ⟨b, i * 2 + 1, none⟩ = some (.int .u64 p.2) := by
 obtain ⟨h1, h2⟩ := pcs_at L i p hi
 exact ⟨cell_of_heap h _ _ (by simpa using h1), cell_of_heap h _ _ (by simpa using h2)⟩
theorem zero336 (b : Nat) : (Tryz.zeroCells336.setIfInBounds 0 (.int .i64 b)).setIfInBounds 1 (.int .u64 0) = (pcs ((List.replicate 60 ((0, 0) : Pc)).set 0 (b, 0))).toArray := by kernel_rfl
theorem underlying336' : Tryz.prog.underlying 336 = some (.array 60 55) := by kernel_rfl
theorem slice336 (b n : Nat) (h : n + 1 ≤ 60) (w : World) : (Instr.sliceAt 336 (.pointer (some ⟨b, 0, none⟩)) none (some (.int .i64 ((n : Int) + 1))) none).run Tryz.prog w = .ok (.slice (some ⟨b, 0, none⟩) (n + 1) 60) w := by
 have hz : (sizeOf 55).run Tryz.prog w = .ok 2 w := by kernel_rfl
 have e : ((n : Int) + 1).toNat = n + 1 := by omega
 have h0 : (0 : Int) ≤ (n : Int) + 1 := by omega
 have h60 : (n : Int) + 1 ≤ 60 := by omega
 simp [Instr.sliceAt, run_underlying underlying336', Instr.sureAddr, Instr.sliceBounds, Instr.sliceBound, go_sem, hz, e, h0, h60]
theorem way_any (st lb lcap : Nat) (vs : Nat → Lv) (c : Cfg) (cs : Nat → List Int) (w : World) (S : StackOk w st lb lcap vs c cs) (R : c.Ok) (k0 M : Int) (h1 : 1 ≤ k0) (h2 : k0 ≤ (cs c.b).getD 0 0) (hM : 0 ≤ M) (hb : ∀ l i, l ≤ c.b → i < c.keys l → -M ≤ c.lvTold l i (cs l) ∧ c.lvTold l i (cs l) ≤ M) (hkM : k0 + 60 * M ≤ 1152921504606846976) :
  Calls Tryz.prog 162 #[.pointer (some ⟨st, 0, none⟩), .int .i64 k0] w fun e w' => (∃ g cc l, e = .returned (.tuple #[.slice (some ⟨g, 0, none⟩) (c.b + 1) cc, .int .i64 0]) ∧ w'.ownsRow w.heap.size 55 2 (.slice (some ⟨g, 0, none⟩) (c.b + 1) cc) (c.b + 1) (pcs l) ∧ l[c.b]? = some (0, wayI (fun l i => c.lvTold l i (cs l)) c.b 0 k0)) ∧ Below w.heap.size w w' := by
 have hb1 := R.b1
 have hb2 := R.b2
 have HT := Lib.hid (stTotal_any st lb lcap vs c cs w S R)
 have HC := Lib.hid fun w S => stConfig_any st lb lcap vs c cs w S
 have hcf := fun w => cfgBits c.b c.r c.wd c.m c.s w
 have d1 : decide (k0 < 1) = false := by simp; omega
 generalize hx : (cs c.b).getD 0 0 = total at h2 HT
 have d2 : decide (total < k0) = false := by simp; omega
 clear hx
 go_enter Tryz.func162, Tryz.ntmps162
 go_wp2_with fail
 go_step3
 go_wp2_with fail
 refine HT.out.mono ?_
 rintro e w1 ⟨rfl, k1⟩
 go_wp2_with fail
 refine (HC.out _ (S.below k1)).mono ?_
 rintro e w2 ⟨rfl, hb2'⟩
 have k2 := k1.trans (hb2'.mono k1.size)
 go_wp2_with fail
 go_step3
 obtain ⟨W0, hW0⟩ : ∃ W0, w2.alloc (.cells ((Tryz.zeroCells336.setIfInBounds 0 (.int .i64 c.b)).setIfInBounds 1 (.int .u64 0)) 336) = W0 := ⟨_, rfl⟩
 have hA : W0.heap[w2.heap.size]? = some (.cells (pcs ((List.replicate 60 ((0, 0) : Pc)).set 0 (c.b, 0))).toArray 336 (0, 0)) := by
  rw [← hW0]; exact (heap_alloc_at _ rfl).trans (congrArg (fun x => some (Obj.cells x 336 (0, 0))) (zero336 c.b))
 have k3 : Below w.heap.size w W0 := by rw [← hW0]; exact k2.alloc k2.size _
 have hB2 := k2.size
 rw [hW0]
 clear hW0 hb2' k1 k2 hcf HC HT d1 d2
 have Hb := Lib.hid hb
 clear hb
 go_wp2_with fail
 go_loopw [1, 8] (fun kv a wr => ∃ (n idx : Nat) (kk : Int) (L : List Pc), n ≤ c.b ∧ kv = .int .i64 kk ∧ a = .int .i64 n ∧ L.length = 60 ∧ L[n]? = some (c.b - n, idx) ∧ idx < 2 ^ n ∧ 1 ≤ kk ∧ kk ≤ k0 + n * M ∧
  wayI (fun l i => c.lvTold l i (cs l)) (c.b - n) idx kk = wayI (fun l i => c.lvTold l i (cs l)) c.b 0 k0 ∧ wr.heap[w2.heap.size]? = some (.cells (pcs L).toArray 336 (0, 0)) ∧ Below w.heap.size w wr) (fun kv a _ => c.b - (intOf a).toNat)
 case atStart => exact ⟨0, 0, k0, _, by omega, rfl, rfl, by simp, by simp, by simp, h1, by simp, rfl, hA, k3⟩
 case round =>
  obtain ⟨n, idx, kk, L, hn, rfl, rfl, hL, hLn, hidx, hk1, hk2, hway, hblk, hB⟩ := hrel
  obtain ⟨a1, a2⟩ := arr_at hblk hLn
  have hlb := lt_of_block hblk
  have hkeys : 2 ^ n ≤ 2 ^ 59 := Nat.pow_le_pow_right (by omega) (by omega)
  dsimp only at a1 a2
  obtain ⟨m, hm⟩ : ∃ m, c.b - n = m := ⟨_, rfl⟩
  rw [hm] at a1 hway hLn
  by_cases hlt2 : 0 < m
  ·obtain ⟨m', rfl⟩ : ∃ m', m = m' + 1 := ⟨m - 1, by omega⟩
   have dm : decide ((0 : Int) < ((m' + 1 : Nat) : Int)) = true := by rw [decide_eq_true_eq]; omega
   have HH := Lib.hid fun w => halves_any c.b (m' + 1) idx w hb1 hb2 hlt2 (by omega) (by rw [show c.b - (m' + 1) = n by omega]; exact hidx)
   rw [show m' + 1 - 1 = m' from rfl] at HH
   have h2i : 2 * idx < c.keys m' := by
    unfold Cfg.keys
    rw [show c.b - m' = n + 1 by omega, Nat.pow_succ]; omega
   have HP := Lib.hid fun w S => stPoint_any st lb lcap vs c cs w S R m' (2 * idx) (by omega) h2i
   go_wp2_with fail
   refine (HH.out _).mono ?_
   rintro e w3 ⟨rfl, hb3⟩
   have hB3 := hB.trans (hb3.mono hB.size)
   have hblk3 := (hb3.block _ hlb).trans hblk
   have hl3 := lt_of_block hblk3
   clear a1 a2 hblk hB hb3
   go_wp2_with fail
   have hkn : idx < 576460752303423488 := by omega
   obtain ⟨W4, hW4⟩ : ∃ W4, (w3.alloc (.cells #[.int .i64 m', .int .u64 (2 * (idx : Int))] 55)).alloc (.cells #[.int .i64 m', .int .u64 (2 * (idx : Int) + 1)] 55) = W4 := ⟨_, rfl⟩
   have kW4 : Below w.heap.size w W4 := by rw [← hW4]; exact (hB3.alloc hB3.size _).alloc (by have := hB3.size; simp; omega) _
   have gl : W4.heap[w3.heap.size]? = some (.cells #[.int .i64 m', .int .u64 (2 * (idx : Int))] 55 (0, 0)) := by rw [← hW4]; exact heap_alloc_under _ (heap_alloc_at _ rfl)
   have gr : W4.heap[w3.heap.size + 1]? = some (.cells #[.int .i64 m', .int .u64 (2 * (idx : Int) + 1)] 55 (0, 0)) := by rw [← hW4]; exact heap_alloc_at _ (by simp)
   have ga : W4.heap[w2.heap.size]? = some (.cells (pcs L).toArray 336 (0, 0)) := by rw [← hW4]; exact heap_alloc_under _ (heap_alloc_under _ hblk3)
   rw [hW4]
   clear hW4 hblk3
   refine (HP.out _ (S.below kW4)).mono ?_
   rintro e w5 ⟨rfl, hb5⟩
   have kW5 := kW4.trans (hb5.mono kW4.size)
   have gl5 := (hb5.block _ (lt_of_block gl)).trans gl
   have gr5 := (hb5.block _ (lt_of_block gr)).trans gr
   have ga5 := (hb5.block _ (lt_of_block ga)).trans ga
   have hl36 := lt_of_block gr5
   have b0 : w5.cell? ⟨w3.heap.size, 0, none⟩ = some (.int .i64 m') := cell_of_heap gl5 0 _ rfl
   have b1 : w5.cell? ⟨w3.heap.size, 1, none⟩ = some (.int .u64 (2 * (idx : Int))) := cell_of_heap gl5 1 _ rfl
   have r0 : w5.cell? ⟨w3.heap.size + 1, 0, none⟩ = some (.int .i64 m') := cell_of_heap gr5 0 _ rfl
   have r1 : w5.cell? ⟨w3.heap.size + 1, 1, none⟩ = some (.int .u64 (2 * (idx : Int) + 1)) := cell_of_heap gr5 1 _ rfl
   have hL1 : L[n + 1]? = some (L.getD (n + 1) (0, 0)) := by rw [List.getD, List.getElem?_eq_getElem (by omega)]; rfl
   obtain ⟨o0, o1⟩ := arr_at ga5 hL1
   have f5 : ∀ o, w5.frozen? ⟨w2.heap.size, o, none⟩ = false := fun o => by simp [World.frozen?, ga5]
   have f0 := f5 ((n + 1) * 2)
   have f1 := f5 ((n + 1) * 2 + 1)
   have hl5 := lt_of_block ga5
   have htv := Hb.out m' (2 * idx) (by omega) h2i
   have hset := arr_set ga5 (n + 1) (m', 2 * idx)
   have hset2 := arr_set ga5 (n + 1) (m', 2 * idx + 1)
   have hway2 : (if kk ≤ c.lvTold m' (2 * idx) (cs m') then wayI (fun l i => c.lvTold l i (cs l)) m' (2 * idx) kk else wayI (fun l i => c.lvTold l i (cs l)) m' (2 * idx + 1) (kk - c.lvTold m' (2 * idx) (cs m'))) = wayI (fun l i => c.lvTold l i (cs l)) c.b 0 k0 := hway
   clear hway gl gr ga hb5 gl5 gr5 HP HH dm f5 hL1
   generalize c.lvTold m' (2 * idx) (cs m') = tv at *
   have HG := Lib.hid (And.intro hset (And.intro ga5 (And.intro hway2 hLn)))
   clear hset hset2 hway2 hLn ga5
   have hM64 : (n : Int) * M ≤ 59 * M := Int.mul_le_mul_of_nonneg_right (by omega) hM
   have hnM : ((n + 1 : Nat) : Int) * M = n * M + M := by rw [show ((n + 1 : Nat) : Int) = (n : Int) + 1 by omega, Int.add_mul, Int.one_mul]
   by_cases hle : kk ≤ tv
   ·have dk : decide (kk ≤ tv) = true := by simpa using hle
    go_wp2_with fail
    go_roundw
    case rel =>
     obtain ⟨g1, _, g3, g4⟩ := HG.out
     rw [if_pos hle] at g3
     refine ⟨n + 1, 2 * idx, kk, L.set (n + 1) (m', 2 * idx), by omega, rfl, by go_num, by simpa using hL, ?_, by rw [Nat.pow_succ]; omega, hk1, by omega, ?_, ?_, (kW5.setCell hB2 _).setCell hB2 _⟩
     ·rw [show c.b - (n + 1) = m' by omega, List.getElem?_set_self (by omega)]
     ·rw [show c.b - (n + 1) = m' by omega]; exact g3
     ·simpa using g1
    case measure => simp [intOf]; omega
   ·have dk : decide (kk ≤ tv) = false := by simpa using hle
    have HW := Lib.hid fun w => wminus_any kk tv w (by omega) (by omega) (by omega) (by omega)
    go_wp2_with fail
    refine (HW.out _).mono ?_
    rintro e w6 ⟨rfl, hb6⟩
    have kW6 := kW5.trans (hb6.mono kW5.size)
    replace r0 := (hb6.cell (p := ⟨w3.heap.size + 1, 0, none⟩) hl36).trans r0
    replace r1 := (hb6.cell (p := ⟨w3.heap.size + 1, 1, none⟩) hl36).trans r1
    replace o0 := (hb6.cell (p := ⟨w2.heap.size, (n + 1) * 2, none⟩) hl5).trans o0
    replace o1 := (hb6.cell (p := ⟨w2.heap.size, (n + 1) * 2 + 1, none⟩) hl5).trans o1
    replace f0 := (hb6.frozen (p := ⟨w2.heap.size, (n + 1) * 2, none⟩) hl5).trans f0
    replace f1 := (hb6.frozen (p := ⟨w2.heap.size, (n + 1) * 2 + 1, none⟩) hl5).trans f1
    have ga6 := (hb6.block _ hl5).trans HG.out.2.1
    have hl6 := lt_of_block ga6
    have hset2 := arr_set ga6 (n + 1) (m', 2 * idx + 1)
    have HG2 := Lib.hid hset2
    clear hset2 ga6 b0 b1 HW hb6
    go_wp2_with fail
    go_roundw
    case rel =>
     obtain ⟨_, _, g3, g4⟩ := HG.out
     rw [if_neg (by omega)] at g3
     refine ⟨n + 1, 2 * idx + 1, kk - tv, L.set (n + 1) (m', 2 * idx + 1), by omega, rfl, by go_num, by simpa using hL, ?_, by rw [Nat.pow_succ]; omega, by omega, by omega, ?_, ?_, (kW6.setCell hB2 _).setCell hB2 _⟩
     ·rw [show c.b - (n + 1) = m' by omega, List.getElem?_set_self (by omega)]
     ·rw [show c.b - (n + 1) = m' by omega]; exact g3
     ·simpa using HG2.out
    case measure => simp [intOf]; omega
  ·obtain rfl : m = 0 := by omega
   have hcells : ∀ j u, (pcs (L.take (c.b + 1)))[j]? = some u → wr.cell? ⟨w2.heap.size, j, none⟩ = some u := fun j u hu => by
    refine cell_of_heap hblk j u ?_
    have e : pcs L = pcs (L.take (c.b + 1)) ++ pcs (L.drop (c.b + 1)) := by rw [← pcs_append, List.take_append_drop]
    have hj := (List.getElem?_eq_some_iff.1 hu).1
    rw [e, List.getElem?_toArray, List.getElem?_append_left hj]; exact hu
   have h336 := fun w => slice336 w2.heap.size c.b (by omega) w
   have HL := Lib.hid (clonePc_any w2.heap.size (c.b + 1) 60 (L.take (c.b + 1)) wr (by omega) (by simp [hL]; omega) (by omega) hlb hcells)
   have hnb : n = c.b := by omega
   clear hcells
   rw [hnb] at a1 a2 ⊢
   have d0 : decide ((0 : Int) < ((0 : Nat) : Int)) = false := by simp
   have HG := Lib.hid (And.intro hLn (And.intro hway hnb))
   clear hLn hway hnb hblk
   go_wp2_with fail
   refine HL.out.mono ?_
   rintro e w7 ⟨⟨g, cc, rfl, ho⟩, hb7⟩
   have HO := Lib.hid ho
   clear ho HL
   go_wp2_with fail
   rw [Exit.noGoto_ret]
   go_ret2
   obtain ⟨g1, g2, g3⟩ := HG.out
   refine ⟨⟨g, cc, L.take (c.b + 1), rfl, own_base HO.out hB.size, ?_⟩, hB.trans (hb7.mono hB.size)⟩
   rw [g3] at g1
   rw [List.getElem?_take_of_lt (by omega), g1]
   simp only [wayI] at g2
   rw [← g2]
end Go.Proofs.YtbhppbeepmllaaaGreatDoor

namespace Go.Proofs.YtbhppbeepmllaaaGreatDoor
open Go.RowKit

theorem way_low (st : Nat) (w : World) (k0 : Int) (h1 : k0 < 1) :
  Calls Tryz.prog 162 #[.pointer (some ⟨st, 0, none⟩), .int .i64 k0] w fun e w' => e = .returned (.tuple #[.slice none 0 0, .int .i64 6]) ∧ w = w' := by
 have d1 : decide (k0 < 1) = true := by simp; omega
 go_enter Tryz.func162, Tryz.ntmps162
 go_wp2_with fail
 go_step3
 go_wp2
 rw [Exit.noGoto_ret]
 go_ret2
 exact ⟨rfl, rfl⟩
theorem way_high (st lb lcap : Nat) (vs : Nat → Lv) (c : Cfg) (cs : Nat → List Int) (w : World) (S : StackOk w st lb lcap vs c cs) (R : c.Ok) (k0 : Int) (h1 : 1 ≤ k0) (h2 : (cs c.b).getD 0 0 < k0) :
  Calls Tryz.prog 162 #[.pointer (some ⟨st, 0, none⟩), .int .i64 k0] w fun e w' => e = .returned (.tuple #[.slice none 0 0, .int .i64 6]) ∧ Below w.heap.size w w' := by
 have HT := Lib.hid (stTotal_any st lb lcap vs c cs w S R)
 have d1 : decide (k0 < 1) = false := by simp; omega
 generalize hx : (cs c.b).getD 0 0 = total at h2 HT
 have d2 : decide (total < k0) = true := by simp; omega
 clear hx
 go_enter Tryz.func162, Tryz.ntmps162
 go_wp2_with fail
 go_step3
 go_wp2_with fail
 refine HT.out.mono ?_
 rintro e w1 ⟨rfl, k1⟩
 go_wp2
 rw [Exit.noGoto_ret]
 go_ret2
 exact ⟨rfl, k1⟩
theorem quant_no (st lb lcap : Nat) (vs : Nat → Lv) (c : Cfg) (cs : Nat → List Int) (w : World) (S : StackOk w st lb lcap vs c cs) (R : c.Ok) (k0 : Int) (h : k0 < 1 ∨ (cs c.b).getD 0 0 < k0) :
  Calls Tryz.prog 122 #[.pointer (some ⟨st, 0, none⟩), .int .i64 k0] w fun e w' => e = .returned (.tuple #[.int .u64 0, .int .i64 6]) ∧ Below w.heap.size w w' := by
 have HW : Hid (Calls Tryz.prog 162 #[.pointer (some ⟨st, 0, none⟩), .int .i64 k0] w fun e w' => e = .returned (.tuple #[.slice none 0 0, .int .i64 6]) ∧ Below w.heap.size w w') := by
  by_cases h1 : k0 < 1
  ·exact Lib.hid ((way_low st w k0 h1).mono fun e w' h => ⟨h.1, h.2 ▸ Below.refl _ _⟩)
  ·exact Lib.hid (way_high st lb lcap vs c cs w S R k0 (by omega) (by omega))
 clear h
 go_enter Tryz.func122, Tryz.ntmps122
 go_wp2_with fail
 refine HW.out.mono ?_
 rintro e w1 ⟨rfl, k1⟩
 go_wp2
 go_ret2
 exact ⟨rfl, k1⟩
theorem quant_any (st lb lcap : Nat) (vs : Nat → Lv) (c : Cfg) (cs : Nat → List Int) (w : World) (S : StackOk w st lb lcap vs c cs) (R : c.Ok) (k0 M : Int) (h1 : 1 ≤ k0) (h2 : k0 ≤ (cs c.b).getD 0 0) (hM : 0 ≤ M) (hb : ∀ l i, l ≤ c.b → i < c.keys l → -M ≤ c.lvTold l i (cs l) ∧ c.lvTold l i (cs l) ≤ M) (hkM : k0 + 60 * M ≤ 1152921504606846976) :
  Calls Tryz.prog 122 #[.pointer (some ⟨st, 0, none⟩), .int .i64 k0] w fun e w' => e = .returned (.tuple #[.int .u64 (wayI (fun l i => c.lvTold l i (cs l)) c.b 0 k0), .int .i64 0]) ∧ Below w.heap.size w w' := by
 have HW := Lib.hid (way_any st lb lcap vs c cs w S R k0 M h1 h2 hM hb hkM)
 have hb2 := R.b2
 clear h1 h2 hb hkM
 go_enter Tryz.func122, Tryz.ntmps122
 go_wp2_with fail
 refine HW.out.mono ?_
 rintro e w1 ⟨⟨g, cc, l, rfl, ho, hl⟩, k1⟩
 obtain ⟨a1, a2⟩ := pcs_at _ _ _ hl
 have c2 := (ho.cellAt (c.b * 2 + 1) (by omega)).trans a2
 have e1 : IntKind.i64.wrap ((c.b : Int) + 1 - 1) = c.b := by rw [IntKind.wrap_i64]; omega
 dsimp only at c2
 generalize hkey : wayI (fun l i => c.lvTold l i (cs l)) c.b 0 k0 = key at c2
 have HK := Lib.hid hkey
 clear hkey
 clear a1 a2 hl
 have HO := Lib.hid ho
 clear ho HW
 go_wp2
 go_ret2
 exact ⟨by simp [HK.out], k1⟩
end Go.Proofs.YtbhppbeepmllaaaGreatDoor

namespace Go.Proofs.YtbhppbeepmllaaaGreatDoor
open Go.RowKit

theorem halves_zero (b i : Nat) (w : World) (hb1 : 1 ≤ b) (hb2 : b ≤ 59) (hi : i < 2 ^ (b - 0)) :
  Calls Tryz.prog 163 #[.int .i64 b, .agg #[.int .i64 0, .int .u64 i]] w fun e w' =>
   e = .returned (.tuple #[.agg #[.int .i64 0, .int .u64 0], .agg #[.int .i64 0, .int .u64 0], .bool false]) ∧ Below w.heap.size w w' := by
 have hk : 2 ^ (b - 0) ≤ 2 ^ 59 := Nat.pow_le_pow_right (by omega) (by omega)
 have hil : i < 576460752303423488 := by omega
 have HI := Lib.hid fun w => isPiece_any b 0 i w hb1 hb2 (by omega) hi
 clear hi hk
 go_enter Tryz.func163, Tryz.ntmps163
 go_wp2_with fail
 refine (HI.out _).mono ?_
 rintro e w1 ⟨rfl, hb⟩
 have h0 : w1.heap[w.heap.size]? = some (.cells #[.int .i64 0, .int .u64 i] 55 (0, 0)) := (hb.block _ (by simp; omega)).trans (heap_alloc_under _ (heap_alloc_under _ (heap_alloc_at _ rfl)))
 have h1 : w1.heap[w.heap.size + 1]? = some (.cells #[.int .i64 0, .int .u64 0] 55 (0, 0)) := (hb.block _ (by simp)).trans (heap_alloc_under _ (heap_alloc_at _ (by simp)))
 have h2 : w1.heap[w.heap.size + 1 + 1]? = some (.cells #[.int .i64 0, .int .u64 0] 55 (0, 0)) := (hb.block _ (by simp)).trans (heap_alloc_at _ (by simp))
 have kw := below_alloc (below_alloc (below_alloc hb))
 have l0 := lt_of_block h0
 have l1 := lt_of_block h1
 have l2 := lt_of_block h2
 have q0 : w1.cell? ⟨w.heap.size, 0, none⟩ = some (.int .i64 0) := by simp [World.cell?, h0]
 have q1 : w1.cell? ⟨w.heap.size, 1, none⟩ = some (.int .u64 i) := by simp [World.cell?, h0]
 have r0 : w1.cell? ⟨w.heap.size + 1, 0, none⟩ = some (.int .i64 0) := by simp [World.cell?, h1]
 have r1 : w1.cell? ⟨w.heap.size + 1, 1, none⟩ = some (.int .u64 0) := by simp [World.cell?, h1]
 have p0 : w1.cell? ⟨w.heap.size + 1 + 1, 0, none⟩ = some (.int .i64 0) := by simp [World.cell?, h2]
 have p1 : w1.cell? ⟨w.heap.size + 1 + 1, 1, none⟩ = some (.int .u64 0) := by simp [World.cell?, h2]
 have r2 : ∀ o, w1.frozen? ⟨w.heap.size + 1, o, none⟩ = false := fun o => by simp [World.frozen?, h1]
 have p2 : ∀ o, w1.frozen? ⟨w.heap.size + 1 + 1, o, none⟩ = false := fun o => by simp [World.frozen?, h2]
 go_wp2_with fail
 have a1 := two_set h1 (.int .i64 0) (.int .u64 0)
 have a2 : ((w1.setCell ⟨w.heap.size + 1, 0, none⟩ (.int .i64 0)).setCell ⟨w.heap.size + 1, 1, none⟩ (.int .u64 0)).heap[w.heap.size + 1 + 1]? = some (.cells #[.int .i64 0, .int .u64 0] 55 (0, 0)) :=
  (heap_setCell_other _ _ _ _ (by simp)).trans ((heap_setCell_other _ _ _ _ (by simp)).trans h2)
 have b2 := two_set a2 (.int .i64 0) (.int .u64 0)
 have b1 := (heap_setCell_other _ ⟨w.heap.size + 1 + 1, 1, none⟩ _ (.int .u64 0) (by simp)).trans ((heap_setCell_other _ ⟨w.heap.size + 1 + 1, 0, none⟩ _ (.int .i64 0) (by simp)).trans a1)
 have kX := (((kw.setCell (p := ⟨w.heap.size + 1, 0, none⟩) (by simp) (.int .i64 0)).setCell (p := ⟨w.heap.size + 1, 1, none⟩) (by simp) (.int .u64 0)).setCell (p := ⟨w.heap.size + 1 + 1, 0, none⟩) (by simp <;> omega) (.int .i64 0)).setCell (p := ⟨w.heap.size + 1 + 1, 1, none⟩) (by simp <;> omega) (.int .u64 0)
 obtain ⟨X, hX⟩ : ∃ X, (((w1.setCell ⟨w.heap.size + 1, 0, none⟩ (.int .i64 0)).setCell ⟨w.heap.size + 1, 1, none⟩ (.int .u64 0)).setCell ⟨w.heap.size + 1 + 1, 0, none⟩ (.int .i64 0)).setCell ⟨w.heap.size + 1 + 1, 1, none⟩ (.int .u64 0) = X := ⟨_, rfl⟩
 rw [hX] at b1 b2 kX ⊢
 clear hX a1 a2 r0 r1 p0 p1 q0 q1 r2 p2 h0 h1 h2
 have t0 := cell_of_heap b1 0 (.int .i64 0) (by simp)
 have t1 := cell_of_heap b1 1 (.int .u64 0) (by simp)
 have t2 := cell_of_heap b2 0 (.int .i64 0) (by simp)
 have t3 := cell_of_heap b2 1 (.int .u64 0) (by simp)
 exact bodyPost_ret (v := .tuple #[.agg #[.int .i64 0, .int .u64 0], .agg #[.int .i64 0, .int .u64 0], .bool false]) (by simp [results, Tryz.results163, go_sem, t0, t1, t2, t3]) rfl ⟨rfl, kX⟩

abbrev Fd := Pc × Int
def fnds (l : List Fd) : List Value := l.flatMap fun f => [.int .i64 f.1.1, .int .u64 f.1.2, .int .i64 f.2]
theorem fnds_len (l : List Fd) : (fnds l).length = l.length * 3 := by
 induction l with
 | nil => rfl
 | cons a l ih => simp only [fnds, List.flatMap_cons, List.length_append, List.length_cons, List.length_nil] at ih ⊢; omega
theorem fnds_append (l m : List Fd) : fnds (l ++ m) = fnds l ++ fnds m := by simp [fnds]
theorem fnds_one (l : List Fd) : ∀ u ∈ fnds l, u.oneCell' = true := by
 intro u hu
 simp only [fnds, List.mem_flatMap, List.mem_cons, List.not_mem_nil, or_false] at hu
 obtain ⟨p, _, rfl | rfl | rfl⟩ := hu <;> rfl
theorem Tryz.info200 : (Tryz.prog.info? 200).map (fun i => (i.zero, i.size, i.bytes)) = some (some (.agg #[.int .i64 0, .int .u64 0, .int .i64 0]), 3, 24) := by kernel_rfl
theorem flit3 (V : World) (a b : Nat) (n : Int) (z : Nat) (hz : z = V.heap.size) : ∀ j u, (fnds [((a, b), n)])[j]? = some u → (V.alloc (.cells #[.int .i64 a, .int .u64 b, .int .i64 n] 200)).cell? ((⟨z, 0, none⟩ : Addr).add j) = some u := by
 subst hz
 intro j u hj
 have h := heap_alloc_at (w := V) (.cells #[.int .i64 a, .int .u64 b, .int .i64 n] 200) rfl
 match j, hj with
 | 0, hj => simp [fnds] at hj; subst hj; exact cell_of_heap h 0 _ (by simp)
 | 1, hj => simp [fnds] at hj; subst hj; exact cell_of_heap h 1 _ (by simp)
 | 2, hj => simp [fnds] at hj; subst hj; exact cell_of_heap h 2 _ (by simp)
 | j + 3, hj => simp [fnds] at hj
theorem plit4 (V : World) (a b c d : Nat) (z : Nat) (hz : z = V.heap.size) : ∀ j u, (pcs [(a, b), (c, d)])[j]? = some u → (V.alloc (.cells #[.int .i64 a, .int .u64 b, .int .i64 c, .int .u64 d] 55)).cell? ((⟨z, 0, none⟩ : Addr).add j) = some u := by
 subst hz
 intro j u hj
 have h := heap_alloc_at (w := V) (.cells #[.int .i64 a, .int .u64 b, .int .i64 c, .int .u64 d] 55) rfl
 match j, hj with
 | 0, hj => simp [pcs] at hj; subst hj; exact cell_of_heap h 0 _ (by simp)
 | 1, hj => simp [pcs] at hj; subst hj; exact cell_of_heap h 1 _ (by simp)
 | 2, hj => simp [pcs] at hj; subst hj; exact cell_of_heap h 2 _ (by simp)
 | 3, hj => simp [pcs] at hj; subst hj; exact cell_of_heap h 3 _ (by simp)
 | j + 4, hj => simp [pcs] at hj

def hvKeep (told : Nat → Nat → Int) (least : Int) (row : List Pc) : List Fd := (row.filter fun p => decide (least ≤ told p.1 p.2)).map fun p => (p, told p.1 p.2)
def hvNext (told : Nat → Nat → Int) (least : Int) (row : List Pc) : List Pc := (row.filter fun p => decide (least ≤ told p.1 p.2)).flatMap fun p => if p.1 = 0 then [] else [(p.1 - 1, 2 * p.2), (p.1 - 1, 2 * p.2 + 1)]
theorem hvKeep_yes {told : Nat → Nat → Int} {least : Int} (row : List Pc) (p : Pc) (h : least ≤ told p.1 p.2) : hvKeep told least (row ++ [p]) = hvKeep told least row ++ [(p, told p.1 p.2)] := by simp [hvKeep, List.filter_append, h]
theorem hvKeep_no {told : Nat → Nat → Int} {least : Int} (row : List Pc) (p : Pc) (h : ¬ least ≤ told p.1 p.2) : hvKeep told least (row ++ [p]) = hvKeep told least row := by simp [hvKeep, List.filter_append, h]
theorem hvNext_yes {told : Nat → Nat → Int} {least : Int} (row : List Pc) (p : Pc) (h : least ≤ told p.1 p.2) : hvNext told least (row ++ [p]) = hvNext told least row ++ if p.1 = 0 then [] else [(p.1 - 1, 2 * p.2), (p.1 - 1, 2 * p.2 + 1)] := by simp [hvNext, List.filter_append, h]
theorem hvNext_no {told : Nat → Nat → Int} {least : Int} (row : List Pc) (p : Pc) (h : ¬ least ≤ told p.1 p.2) : hvNext told least (row ++ [p]) = hvNext told least row := by simp [hvNext, List.filter_append, h]
theorem hvKeep_len (told : Nat → Nat → Int) (least : Int) (row : List Pc) : (hvKeep told least row).length ≤ row.length := by
 unfold hvKeep; rw [List.length_map]; exact List.length_filter_le _ _
theorem hvNext_len (told : Nat → Nat → Int) (least : Int) (row : List Pc) : (hvNext told least row).length ≤ 2 * row.length := by
 induction row with
 | nil => simp [hvNext]
 | cons p row ih =>
  unfold hvNext at ih ⊢
  rw [List.filter_cons]
  split
  ·rw [List.flatMap_cons, List.length_append]
   have : (if p.1 = 0 then ([] : List Pc) else [(p.1 - 1, 2 * p.2), (p.1 - 1, 2 * p.2 + 1)]).length ≤ 2 := by split <;> simp
   simp only [List.length_cons]; omega
  ·simp only [List.length_cons]; omega
theorem hvNext_mem {told : Nat → Nat → Int} {least : Int} {row : List Pc} {t b : Nat} (h : ∀ p ∈ row, p.1 + t = b ∧ p.2 < 2 ^ t) : ∀ p ∈ hvNext told least row, p.1 + (t + 1) = b ∧ p.2 < 2 ^ (t + 1) := by
 intro q hq
 unfold hvNext at hq
 simp only [List.mem_flatMap, List.mem_filter] at hq
 obtain ⟨p, ⟨hp, _⟩, hq⟩ := hq
 obtain ⟨h1, h2⟩ := h p hp
 split at hq
 ·simp at hq
 ·simp only [List.mem_cons, List.not_mem_nil, or_false] at hq
  rw [Nat.pow_succ]
  rcases hq with rfl | rfl
  ·dsimp only; omega
  ·dsimp only; omega
def hvGo (told : Nat → Nat → Int) (least : Int) (budget : Nat) : Nat → Nat → List Pc → List Fd → Option (List Fd)
 | 0, _, _, out => some out
 | n + 1, asked, row, out => if budget < asked + row.length then none else hvGo told least budget n (asked + row.length) (hvNext told least row) (out ++ hvKeep told least row)
end Go.Proofs.YtbhppbeepmllaaaGreatDoor
