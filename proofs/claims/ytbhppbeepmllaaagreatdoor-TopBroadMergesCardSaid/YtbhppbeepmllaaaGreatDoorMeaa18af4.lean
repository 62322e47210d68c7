import Derived.Test.YtbhppbeepmllaaaGreatDoorMe06f6794
set_option linter.unusedVariables false
set_option linter.unusedSimpArgs false
set_option maxRecDepth 100000
set_option maxHeartbeats 2000000
namespace Go.Proofs.YtbhppbeepmllaaaGreatDoor
open Go.RowKit

theorem alike_any (s1 g1 cb1 cap1 s2 g2 cb2 cap2 : Nat) (c : Cfg) (l : Nat) (xs ys : List Int) (w : World) (S : SketchOk w s1 g1 cb1 cap1 c l xs) (T : SketchOk w s2 g2 cb2 cap2 c l ys) :
  Calls Tryz.prog 237 #[.pointer (some ⟨s1, 0, none⟩), .pointer (some ⟨s2, 0, none⟩)] w fun e w' => e = .returned (.bool true) ∧ Below w.heap.size w w' := by
 have q0 : w.cell? ⟨s1, 0, none⟩ = some (.pointer (some ⟨g1, 0, none⟩)) := by simp [World.cell?, S.hd]
 have q1 : w.cell? ⟨s1, 1, none⟩ = some (.int .i64 c.b) := by simp [World.cell?, S.hd]
 have q2 : w.cell? ⟨s1, 2, none⟩ = some (.int .i64 c.r) := by simp [World.cell?, S.hd]
 have q3 : w.cell? ⟨s1, 3, none⟩ = some (.int .i64 c.wd) := by simp [World.cell?, S.hd]
 have q4 : w.cell? ⟨s1, 4, none⟩ = some (.int .i64 c.m) := by simp [World.cell?, S.hd]
 have q5 : w.cell? ⟨s1, 5, none⟩ = some (.int .u64 c.s) := by simp [World.cell?, S.hd]
 have q6 : w.cell? ⟨s1, 6, none⟩ = some (.int .i64 l) := by simp [World.cell?, S.hd]
 have p0 : w.cell? ⟨s2, 0, none⟩ = some (.pointer (some ⟨g2, 0, none⟩)) := by simp [World.cell?, T.hd]
 have p1 : w.cell? ⟨s2, 1, none⟩ = some (.int .i64 c.b) := by simp [World.cell?, T.hd]
 have p2 : w.cell? ⟨s2, 2, none⟩ = some (.int .i64 c.r) := by simp [World.cell?, T.hd]
 have p3 : w.cell? ⟨s2, 3, none⟩ = some (.int .i64 c.wd) := by simp [World.cell?, T.hd]
 have p4 : w.cell? ⟨s2, 4, none⟩ = some (.int .i64 c.m) := by simp [World.cell?, T.hd]
 have p5 : w.cell? ⟨s2, 5, none⟩ = some (.int .u64 c.s) := by simp [World.cell?, T.hd]
 have p6 : w.cell? ⟨s2, 6, none⟩ = some (.int .i64 l) := by simp [World.cell?, T.hd]
 go_enter Tryz.func237, Tryz.ntmps237
 go_wp2_with fail
 go_quiet (fail)
 go_wp2
 go_ret
 exact ⟨by simp, below_drewN (Below.refl _ _) _⟩

theorem skMerge_any (s1 g1 cb1 cap1 s2 g2 cb2 cap2 : Nat) (c : Cfg) (l : Nat) (xs ys : List Int) (w : World) (S : SketchOk w s1 g1 cb1 cap1 c l xs) (T : SketchOk w s2 g2 cb2 cap2 c l ys) (hn : 0 < xs.length) (hn2 : xs.length ≤ 1000000) (hx : Small xs) (hy : Small ys) :
  Calls Tryz.prog 208 #[.pointer (some ⟨s1, 0, none⟩), .pointer (some ⟨s2, 0, none⟩)] w fun e w' => e = .returned (.int .i64 0) ∧ SketchOk w' s1 g1 cb1 cap1 c l (zipI (· + ·) xs ys) ∧ w.grownBy w' (some cb1) := by
 have HA := Lib.hid (alike_any s1 g1 cb1 cap1 s2 g2 cb2 cap2 c l xs ys w S T)
 go_enter Tryz.func208, Tryz.ntmps208
 go_wp2_with fail
 refine HA.out.mono ?_
 rintro e w1 ⟨rfl, hb⟩
 have S1 := S.below hb S.lt.1 S.lt.2.1 S.lt.2.2
 have T1 := T.below hb T.lt.1 T.lt.2.1 T.lt.2.2
 have q0 : w1.cell? ⟨s1, 0, none⟩ = some (.pointer (some ⟨g1, 0, none⟩)) := by simp [World.cell?, S1.hd]
 have q1 : w1.cell? ⟨s1, 1, none⟩ = some (.int .i64 c.b) := by simp [World.cell?, S1.hd]
 have q2 : w1.cell? ⟨s1, 2, none⟩ = some (.int .i64 c.r) := by simp [World.cell?, S1.hd]
 have q3 : w1.cell? ⟨s1, 3, none⟩ = some (.int .i64 c.wd) := by simp [World.cell?, S1.hd]
 have q4 : w1.cell? ⟨s1, 4, none⟩ = some (.int .i64 c.m) := by simp [World.cell?, S1.hd]
 have q5 : w1.cell? ⟨s1, 5, none⟩ = some (.int .u64 c.s) := by simp [World.cell?, S1.hd]
 have q6 : w1.cell? ⟨s1, 6, none⟩ = some (.int .i64 l) := by simp [World.cell?, S1.hd]
 have p0 : w1.cell? ⟨s2, 0, none⟩ = some (.pointer (some ⟨g2, 0, none⟩)) := by simp [World.cell?, T1.hd]
 have p1 : w1.cell? ⟨s2, 1, none⟩ = some (.int .i64 c.b) := by simp [World.cell?, T1.hd]
 have p2 : w1.cell? ⟨s2, 2, none⟩ = some (.int .i64 c.r) := by simp [World.cell?, T1.hd]
 have p3 : w1.cell? ⟨s2, 3, none⟩ = some (.int .i64 c.wd) := by simp [World.cell?, T1.hd]
 have p4 : w1.cell? ⟨s2, 4, none⟩ = some (.int .i64 c.m) := by simp [World.cell?, T1.hd]
 have p5 : w1.cell? ⟨s2, 5, none⟩ = some (.int .u64 c.s) := by simp [World.cell?, T1.hd]
 have p6 : w1.cell? ⟨s2, 6, none⟩ = some (.int .i64 l) := by simp [World.cell?, T1.hd]
 go_wp2_with fail
 refine wp_region_mixA w1.heap.size [0, 1, 2, 3, 4, 5, 6, 7, 8, 9] [10, 11] (by kernel_rfl) (by kernel_rfl) rfl ?_
 simp only [opsAt, List.map_cons, List.map_nil, List.getElem?_toArray, List.getElem?_cons_zero, List.getElem?_cons_succ, Option.getD_some]
 have zq0 := fun k : After w1.heap.size w1 => k.cell (S1.lt.1) q0
 have zq1 := fun k : After w1.heap.size w1 => k.cell (S1.lt.1) q1
 have zq2 := fun k : After w1.heap.size w1 => k.cell (S1.lt.1) q2
 have zq3 := fun k : After w1.heap.size w1 => k.cell (S1.lt.1) q3
 have zq4 := fun k : After w1.heap.size w1 => k.cell (S1.lt.1) q4
 have zq5 := fun k : After w1.heap.size w1 => k.cell (S1.lt.1) q5
 have zq6 := fun k : After w1.heap.size w1 => k.cell (S1.lt.1) q6
 have zp0 := fun k : After w1.heap.size w1 => k.cell (T1.lt.1) p0
 have zp1 := fun k : After w1.heap.size w1 => k.cell (T1.lt.1) p1
 have zp2 := fun k : After w1.heap.size w1 => k.cell (T1.lt.1) p2
 have zp3 := fun k : After w1.heap.size w1 => k.cell (T1.lt.1) p3
 have zp4 := fun k : After w1.heap.size w1 => k.cell (T1.lt.1) p4
 have zp5 := fun k : After w1.heap.size w1 => k.cell (T1.lt.1) p5
 have zp6 := fun k : After w1.heap.size w1 => k.cell (T1.lt.1) p6
 repeat (go_big_quiet_step (fail))
 refine wpQuiet_nil ?_
 intro kk
 unfold calmQ
 have kb := kk.h
 clear zq0 zq1 zq2 zq3 zq4 zq5 zq6 zp0 zp1 zp2 zp3 zp4 zp5 zp6
 obtain ⟨w2, hw1⟩ : ∃ w2, kk.w = w2 := ⟨_, rfl⟩
 rw [hw1] at kb
 rw [hw1]
 clear hw1
 have S2 := S1.below kb S1.lt.1 S1.lt.2.1 S1.lt.2.2
 have T2 := T1.below kb T1.lt.1 T1.lt.2.1 T1.lt.2.2
 have hb2 := hb.trans (kb.mono hb.size)
 have HP := Lib.hid (gplus_any g1 cb1 cap1 g2 cb2 cap2 c.r c.wd xs ys w2 S2.grid T2.grid hn hn2 hx hy)
 clear q0 q1 q2 q3 q4 q5 q6 p0 p1 p2 p3 p4 p5 p6
 go_wp2_with fail
 refine HP.out.mono ?_
 rintro e w3 ⟨rfl, hG, hg⟩
 go_wp2
 go_ret
 exact ⟨rfl, S2.turned hG hg, grown_trans (grown_of_below hb2 _) hg⟩

theorem skSub_any (s1 g1 cb1 cap1 s2 g2 cb2 cap2 : Nat) (c : Cfg) (l : Nat) (xs ys : List Int) (w : World) (S : SketchOk w s1 g1 cb1 cap1 c l xs) (T : SketchOk w s2 g2 cb2 cap2 c l ys) (hn : 0 < xs.length) (hn2 : xs.length ≤ 1000000) (hx : Small xs) (hy : Small ys) (hm : c.m ≠ 2) :
  Calls Tryz.prog 210 #[.pointer (some ⟨s1, 0, none⟩), .pointer (some ⟨s2, 0, none⟩)] w fun e w' => e = .returned (.int .i64 0) ∧ SketchOk w' s1 g1 cb1 cap1 c l (zipI (· - ·) xs ys) ∧ w.grownBy w' (some cb1) := by
 have HA := Lib.hid (alike_any s1 g1 cb1 cap1 s2 g2 cb2 cap2 c l xs ys w S T)
 have hm'' : ((c.m : Int) == 2) = false := by simp; omega
 have hm' : decide ((c.m : Int) = 2) = false := by simp; omega
 go_enter Tryz.func210, Tryz.ntmps210
 go_wp2_with fail
 refine HA.out.mono ?_
 rintro e w1 ⟨rfl, hb⟩
 have S1 := S.below hb S.lt.1 S.lt.2.1 S.lt.2.2
 have T1 := T.below hb T.lt.1 T.lt.2.1 T.lt.2.2
 have q0 : w1.cell? ⟨s1, 0, none⟩ = some (.pointer (some ⟨g1, 0, none⟩)) := by simp [World.cell?, S1.hd]
 have q1 : w1.cell? ⟨s1, 1, none⟩ = some (.int .i64 c.b) := by simp [World.cell?, S1.hd]
 have q2 : w1.cell? ⟨s1, 2, none⟩ = some (.int .i64 c.r) := by simp [World.cell?, S1.hd]
 have q3 : w1.cell? ⟨s1, 3, none⟩ = some (.int .i64 c.wd) := by simp [World.cell?, S1.hd]
 have q4 : w1.cell? ⟨s1, 4, none⟩ = some (.int .i64 c.m) := by simp [World.cell?, S1.hd]
 have q5 : w1.cell? ⟨s1, 5, none⟩ = some (.int .u64 c.s) := by simp [World.cell?, S1.hd]
 have q6 : w1.cell? ⟨s1, 6, none⟩ = some (.int .i64 l) := by simp [World.cell?, S1.hd]
 have p0 : w1.cell? ⟨s2, 0, none⟩ = some (.pointer (some ⟨g2, 0, none⟩)) := by simp [World.cell?, T1.hd]
 have p1 : w1.cell? ⟨s2, 1, none⟩ = some (.int .i64 c.b) := by simp [World.cell?, T1.hd]
 have p2 : w1.cell? ⟨s2, 2, none⟩ = some (.int .i64 c.r) := by simp [World.cell?, T1.hd]
 have p3 : w1.cell? ⟨s2, 3, none⟩ = some (.int .i64 c.wd) := by simp [World.cell?, T1.hd]
 have p4 : w1.cell? ⟨s2, 4, none⟩ = some (.int .i64 c.m) := by simp [World.cell?, T1.hd]
 have p5 : w1.cell? ⟨s2, 5, none⟩ = some (.int .u64 c.s) := by simp [World.cell?, T1.hd]
 have p6 : w1.cell? ⟨s2, 6, none⟩ = some (.int .i64 l) := by simp [World.cell?, T1.hd]
 go_wp2_with fail
 refine wp_region_mixA w1.heap.size [0, 1, 2, 3, 4, 5, 6, 7, 8, 9] [10, 11] (by kernel_rfl) (by kernel_rfl) rfl ?_
 simp only [opsAt, List.map_cons, List.map_nil, List.getElem?_toArray, List.getElem?_cons_zero, List.getElem?_cons_succ, Option.getD_some]
 have zq0 := fun k : After w1.heap.size w1 => k.cell (S1.lt.1) q0
 have zq1 := fun k : After w1.heap.size w1 => k.cell (S1.lt.1) q1
 have zq2 := fun k : After w1.heap.size w1 => k.cell (S1.lt.1) q2
 have zq3 := fun k : After w1.heap.size w1 => k.cell (S1.lt.1) q3
 have zq4 := fun k : After w1.heap.size w1 => k.cell (S1.lt.1) q4
 have zq5 := fun k : After w1.heap.size w1 => k.cell (S1.lt.1) q5
 have zq6 := fun k : After w1.heap.size w1 => k.cell (S1.lt.1) q6
 have zp0 := fun k : After w1.heap.size w1 => k.cell (T1.lt.1) p0
 have zp1 := fun k : After w1.heap.size w1 => k.cell (T1.lt.1) p1
 have zp2 := fun k : After w1.heap.size w1 => k.cell (T1.lt.1) p2
 have zp3 := fun k : After w1.heap.size w1 => k.cell (T1.lt.1) p3
 have zp4 := fun k : After w1.heap.size w1 => k.cell (T1.lt.1) p4
 have zp5 := fun k : After w1.heap.size w1 => k.cell (T1.lt.1) p5
 have zp6 := fun k : After w1.heap.size w1 => k.cell (T1.lt.1) p6
 repeat (go_big_quiet_step (fail))
 refine wpQuiet_nil ?_
 intro kk
 unfold calmQ
 have kb := kk.h
 clear zq0 zq1 zq2 zq3 zq4 zq5 zq6 zp0 zp1 zp2 zp3 zp4 zp5 zp6
 obtain ⟨w2, hw1⟩ : ∃ w2, kk.w = w2 := ⟨_, rfl⟩
 rw [hw1] at kb
 rw [hw1]
 clear hw1
 have S2 := S1.below kb S1.lt.1 S1.lt.2.1 S1.lt.2.2
 have T2 := T1.below kb T1.lt.1 T1.lt.2.1 T1.lt.2.2
 have hb2 := hb.trans (kb.mono hb.size)
 have HP := Lib.hid (gminus_any g1 cb1 cap1 g2 cb2 cap2 c.r c.wd xs ys w2 S2.grid T2.grid hn hn2 hx hy)
 clear q0 q1 q2 q3 q4 q5 q6 p0 p1 p2 p3 p4 p5 p6
 go_wp2_with fail
 refine HP.out.mono ?_
 rintro e w3 ⟨rfl, hG, hg⟩
 go_wp2
 go_ret
 exact ⟨rfl, S2.turned hG hg, grown_trans (grown_of_below hb2 _) hg⟩

def loadK (cells l : List Int) (k : Nat) : List Int := l.take k ++ cells.drop k
theorem loadK_set (cells l : List Int) (k : Nat) (x : Int) (h : l[k]? = some x) (hl : l.length = cells.length) : (loadK cells l k).set k x = loadK cells l (k + 1) := by
 have hk := (List.getElem?_eq_some_iff.1 h).1
 unfold loadK
 have e : cells.drop k = cells[k] :: cells.drop (k + 1) := List.drop_eq_getElem_cons (by omega)
 rw [e, take_snoc' h, List.set_append_right _ _ (by simp; omega)]
 have e2 : k - (l.take k).length = 0 := by simp; omega
 rw [e2, List.set_cons_zero, List.append_assoc]
 rfl
theorem loadK_len (cells l : List Int) (k : Nat) (h : k ≤ l.length) (hl : l.length = cells.length) : (loadK cells l k).length = cells.length := by
 simp [loadK]; omega

theorem skLoad_any (sk g cb cap lg lc : Nat) (c : Cfg) (l : Nat) (cells ys : List Int) (w : World) (S : SketchOk w sk g cb cap c l cells) (R : c.Ok) (hl : ys.length = c.r * c.wd)
  (hy : w.ownsRow 0 2 1 (.slice (some ⟨lg, 0, none⟩) ys.length lc) ys.length (i64s ys)) (hne : lg ≠ cb) :
  Calls Tryz.prog 313 #[.pointer (some ⟨sk, 0, none⟩), .slice (some ⟨lg, 0, none⟩) ys.length lc] w fun e w' => e = .returned (.bool true) ∧ SketchOk w' sk g cb cap c l ys ∧ w.grownBy w' (some cb) := by
 have q0 : w.cell? ⟨sk, 0, none⟩ = some (.pointer (some ⟨g, 0, none⟩)) := by simp [World.cell?, S.hd]
 have q1 : w.cell? ⟨sk, 1, none⟩ = some (.int .i64 c.b) := by simp [World.cell?, S.hd]
 have q2 : w.cell? ⟨sk, 2, none⟩ = some (.int .i64 c.r) := by simp [World.cell?, S.hd]
 have q3 : w.cell? ⟨sk, 3, none⟩ = some (.int .i64 c.wd) := by simp [World.cell?, S.hd]
 have q4 : w.cell? ⟨sk, 4, none⟩ = some (.int .i64 c.m) := by simp [World.cell?, S.hd]
 have q5 : w.cell? ⟨sk, 5, none⟩ = some (.int .u64 c.s) := by simp [World.cell?, S.hd]
 have q6 : w.cell? ⟨sk, 6, none⟩ = some (.int .i64 l) := by simp [World.cell?, S.hd]
 have hr2 := R.r2
 have hw1 := R.w1
 have hw2 := R.w2
 have hmul : ((c.r : Int) * (c.wd : Int)) = ((c.r * c.wd : Nat) : Int) := by rw [Int.natCast_mul]
 have hle : c.r * c.wd ≤ 8 * 128 := Nat.mul_le_mul hr2 hw2
 obtain ⟨n, hn⟩ : ∃ n, c.r * c.wd = n := ⟨_, rfl⟩
 have HN := Lib.hid hn
 rw [hn] at hmul hle hl
 clear hn
 rw [hl] at hy ⊢
 go_enter Tryz.func313, Tryz.ntmps313
 go_wp2_with fail
 go_quiet (fail)
 go_wp2_with fail
 have hg0 := grown_of_below (below_drewN (Below.refl w.heap.size w) nq) (some cb)
 have G0 := S.grid.drewN nq
 go_loopw [23] (fun i wr => ∃ k : Nat, k ≤ n ∧ i = .int .i64 k ∧ GridOk wr g cb cap c.r c.wd (loadK cells ys k) ∧ w.grownBy wr (some cb)) (fun i _ => n - (intOf i).toNat)
 case atStart => exact ⟨0, by omega, rfl, by simpa [loadK] using G0, hg0⟩
 case round =>
  obtain ⟨k, hk, rfl, hG, hg⟩ := hrel
  by_cases hlt : k < n
  ·obtain ⟨x, hx⟩ : ∃ x, ys[k]? = some x := ⟨_, List.getElem?_eq_getElem (by omega)⟩
   have hcell : wr.cell? ⟨lg, k, none⟩ = some (.int .i64 x) := by
    rw [World.cell?_of_block (w := w) (hg.block lg (ints_lt hy) (by intro e; cases e; exact hne rfl)), hy.cellAt k (by omega)]
    exact i64s_at hx
   have Sr := S.turned hG hg
   have hwp : (0 : Int) < c.wd := by omega
   have i1 : (0 : Int) ≤ (k : Int) / c.wd := Int.ediv_nonneg (by omega) (by omega)
   have i2 : (k : Int) / c.wd < c.r := Int.ediv_lt_of_lt_mul hwp (by rw [hmul]; omega)
   have i3 : (0 : Int) ≤ (k : Int) % c.wd := Int.emod_nonneg _ (by omega)
   have i4 : (k : Int) % c.wd < c.wd := Int.emod_lt_of_pos _ hwp
   have i5 : ((k : Int) / c.wd * c.wd + (k : Int) % c.wd).toNat = k := by
    rw [Int.ediv_mul_add_emod]; omega
   have hset := hG.set k x
   rw [loadK_set cells ys k x hx (by have := S.grid.sz; rw [this, HN.out, hl])] at hset
   have hgs := grown_trans hg (grown_set wr cb k (.int .i64 x))
   have p0 : wr.cell? ⟨sk, 0, none⟩ = some (.pointer (some ⟨g, 0, none⟩)) := by simp [World.cell?, Sr.hd]
   have p1 : wr.cell? ⟨sk, 1, none⟩ = some (.int .i64 c.b) := by simp [World.cell?, Sr.hd]
   have p2 : wr.cell? ⟨sk, 2, none⟩ = some (.int .i64 c.r) := by simp [World.cell?, Sr.hd]
   have p3 : wr.cell? ⟨sk, 3, none⟩ = some (.int .i64 c.wd) := by simp [World.cell?, Sr.hd]
   have p4 : wr.cell? ⟨sk, 4, none⟩ = some (.int .i64 c.m) := by simp [World.cell?, Sr.hd]
   have p5 : wr.cell? ⟨sk, 5, none⟩ = some (.int .u64 c.s) := by simp [World.cell?, Sr.hd]
   have p6 : wr.cell? ⟨sk, 6, none⟩ = some (.int .i64 l) := by simp [World.cell?, Sr.hd]
   clear q0 q1 q2 q3 q4 q5 q6
   go_wp2_with fail
   refine wp_region_mixA wr.heap.size [0, 1, 2, 3, 4, 5, 6, 7, 8, 9, 10, 11, 12, 13, 14, 15, 16, 17, 18, 19] [20] (by kernel_rfl) (by kernel_rfl) rfl ?_
   simp only [opsAt, List.map_cons, List.map_nil, List.getElem?_toArray, List.getElem?_cons_zero, List.getElem?_cons_succ, Option.getD_some]
   have zp0 := fun k : After wr.heap.size wr => k.cell (Sr.lt.1) p0
   have zp1 := fun k : After wr.heap.size wr => k.cell (Sr.lt.1) p1
   have zp2 := fun k : After wr.heap.size wr => k.cell (Sr.lt.1) p2
   have zp3 := fun k : After wr.heap.size wr => k.cell (Sr.lt.1) p3
   have zp4 := fun k : After wr.heap.size wr => k.cell (Sr.lt.1) p4
   have zp5 := fun k : After wr.heap.size wr => k.cell (Sr.lt.1) p5
   have zp6 := fun k : After wr.heap.size wr => k.cell (Sr.lt.1) p6
   repeat (go_big_quiet_step (fail))
   refine wpQuiet_nil ?_
   intro kk
   unfold calmQ
   have kb := kk.h
   clear zp0 zp1 zp2 zp3 zp4 zp5 zp6
   obtain ⟨w2, hw1⟩ : ∃ w2, kk.w = w2 := ⟨_, rfl⟩
   rw [hw1] at kb
   rw [hw1]
   clear hw1
   have S2 := Sr.below kb Sr.lt.1 Sr.lt.2.1 Sr.lt.2.2
   have HP := Lib.hid (put_any g cb cap c.r c.wd (loadK cells ys k) ((k : Int) / c.wd) ((k : Int) % c.wd) x w2 S2.grid i1 i2 i3 i4 R.r2 R.w2)
   rw [i5] at HP
   have hset := S2.grid.set k x
   rw [loadK_set cells ys k x hx (by have := S.grid.sz; rw [this, HN.out, hl])] at hset
   have hgs := grown_trans (grown_below hg kb (hg.size)) (grown_set w2 cb k (.int .i64 x))
   clear p0 p1 p2 p3 p4 p5 p6 hx i5
   go_wp2_with fail
   refine HP.out.mono ?_
   rintro e w3 ⟨rfl, rfl⟩
   go_wp2
   go_roundw
   case rel => exact ⟨k + 1, by omega, by go_num, hset, hgs⟩
   case measure => simp [intOf]; omega
  ·obtain rfl : k = n := by omega
   go_wp2
   go_ret
   have e : loadK cells ys k = ys := by
    have h1 := S.grid.sz
    rw [HN.out] at h1
    unfold loadK
    rw [List.take_of_length_le (by omega), List.drop_eq_nil_of_le (by omega), List.append_nil]
   rw [e] at hG
   exact ⟨rfl, S.turned hG hg, hg⟩

end Go.Proofs.YtbhppbeepmllaaaGreatDoor

namespace Go.Proofs.YtbhppbeepmllaaaGreatDoor
open Go.RowKit

structure ArrOk (w : World) (a g cb cap : Nat) (c : Cfg) (l : Nat) (cells : List Int) : Prop where
 hd : w.heap[a]? = some (.cells #[.int .i64 c.b, .int .i64 c.r, .int .i64 c.wd, .int .i64 c.m, .int .u64 c.s, .int .i64 l, .pointer (some ⟨g, 0, none⟩)] 301 (0, 0))
 grid : GridOk w g cb cap 1 (c.keys l) cells
 few : c.keys l ≤ c.wd

theorem ArrOk.ne {w : World} {a g cb cap : Nat} {c : Cfg} {l : Nat} {cells : List Int} (S : ArrOk w a g cb cap c l cells) : a ≠ cb := by
 intro e
 subst e
 obtain ⟨cur, h2, _⟩ := own_block S.grid.row
 have := S.hd.symm.trans h2
 simp at this
theorem ArrOk.lt {w : World} {a g cb cap : Nat} {c : Cfg} {l : Nat} {cells : List Int} (S : ArrOk w a g cb cap c l cells) : a < w.heap.size ∧ g < w.heap.size ∧ cb < w.heap.size := ⟨lt_of_block S.hd, S.grid.lt⟩
theorem ArrOk.below {w w' : World} {B a g cb cap : Nat} {c : Cfg} {l : Nat} {cells : List Int} (S : ArrOk w a g cb cap c l cells) (hb : Below B w w') (h1 : a < B) (h2 : g < B) (h3 : cb < B) : ArrOk w' a g cb cap c l cells :=
 ⟨(hb.block a h1).trans S.hd, S.grid.below hb h2 h3, S.few⟩
theorem ArrOk.turned {w w' : World} {a g cb cap : Nat} {c : Cfg} {l : Nat} {cells cells' : List Int} (S : ArrOk w a g cb cap c l cells) (G : GridOk w' g cb cap 1 (c.keys l) cells') (hg : w.grownBy w' (some cb)) : ArrOk w' a g cb cap c l cells' :=
 ⟨(hg.block a S.lt.1 (by intro e; cases e; exact S.ne rfl)).trans S.hd, G, S.few⟩
theorem ArrOk.len {w : World} {a g cb cap : Nat} {c : Cfg} {l : Nat} {cells : List Int} (S : ArrOk w a g cb cap c l cells) : cells.length = c.keys l := by have := S.grid.sz; omega
theorem Cfg.keys_pos (c : Cfg) (l : Nat) : 1 ≤ c.keys l := Nat.one_le_two_pow

theorem at0_any (g cb cap width k : Nat) (cells : List Int) (w : World) (G : GridOk w g cb cap 1 width cells) (hk : k < width) (hw : width ≤ 128) :
  Calls Tryz.prog 309 #[.pointer (some ⟨g, 0, none⟩), .int .i64 0, .int .i64 k] w fun e w' => e = .returned (.int .i64 (cells.getD k 0)) ∧ w = w' := by
 have hs := G.sz
 exact at_any g cb cap 1 width cells 0 k (cells.getD k 0) w G (by omega) (by omega) (by omega) (by omega) (by omega) hw (by rw [Int.zero_mul, Int.zero_add, Int.toNat_natCast]; exact some_getD (by omega))
theorem put0_any (g cb cap width k : Nat) (x : Int) (cells : List Int) (w : World) (G : GridOk w g cb cap 1 width cells) (hk : k < width) (hw : width ≤ 128) :
  Calls Tryz.prog 310 #[.pointer (some ⟨g, 0, none⟩), .int .i64 0, .int .i64 k, .int .i64 x] w fun e w' => e = .returned (.bool true) ∧ w.setCell ⟨cb, k, none⟩ (.int .i64 x) = w' := by
 have h := put_any g cb cap 1 width cells 0 k x w G (by omega) (by omega) (by omega) (by omega) (by omega) hw
 rwa [Int.zero_mul, Int.zero_add, Int.toNat_natCast] at h

theorem aConfig_any (a g cb cap : Nat) (c : Cfg) (l : Nat) (cells : List Int) (w : World) (S : ArrOk w a g cb cap c l cells) :
  Calls Tryz.prog 204 #[.pointer (some ⟨a, 0, none⟩)] w fun e w' => e = .returned (.agg #[.int .i64 c.b, .int .i64 c.r, .int .i64 c.wd, .int .i64 c.m, .int .u64 c.s]) ∧ Below w.heap.size w w' := by
 have q0 : w.cell? ⟨a, 0, none⟩ = some (.int .i64 c.b) := by simp [World.cell?, S.hd]
 have q1 : w.cell? ⟨a, 1, none⟩ = some (.int .i64 c.r) := by simp [World.cell?, S.hd]
 have q2 : w.cell? ⟨a, 2, none⟩ = some (.int .i64 c.wd) := by simp [World.cell?, S.hd]
 have q3 : w.cell? ⟨a, 3, none⟩ = some (.int .i64 c.m) := by simp [World.cell?, S.hd]
 have q4 : w.cell? ⟨a, 4, none⟩ = some (.int .u64 c.s) := by simp [World.cell?, S.hd]
 have q5 : w.cell? ⟨a, 5, none⟩ = some (.int .i64 l) := by simp [World.cell?, S.hd]
 have q6 : w.cell? ⟨a, 6, none⟩ = some (.pointer (some ⟨g, 0, none⟩)) := by simp [World.cell?, S.hd]
 have hlt := S.lt.1
 go_enter Tryz.func204, Tryz.ntmps204
 go_wp2
 exact bodyPost_ret (v := .agg #[.int .i64 c.b, .int .i64 c.r, .int .i64 c.wd, .int .i64 c.m, .int .u64 c.s]) (by simp [results, Tryz.results204, go_sem]) rfl ⟨rfl, by
  repeat' (first | exact Below.refl _ _ | refine Below.alloc ?_ (by first | exact Nat.le_refl _ | (simp; omega)) _ | refine Below.setCell ?_ (Nat.le_refl _) _)⟩

theorem aLevel_any (a g cb cap : Nat) (c : Cfg) (l : Nat) (cells : List Int) (w : World) (S : ArrOk w a g cb cap c l cells) :
  Calls Tryz.prog 205 #[.pointer (some ⟨a, 0, none⟩)] w fun e w' => e = .returned (.int .i64 l) ∧ w = w' := by
 have q0 : w.cell? ⟨a, 0, none⟩ = some (.int .i64 c.b) := by simp [World.cell?, S.hd]
 have q1 : w.cell? ⟨a, 1, none⟩ = some (.int .i64 c.r) := by simp [World.cell?, S.hd]
 have q2 : w.cell? ⟨a, 2, none⟩ = some (.int .i64 c.wd) := by simp [World.cell?, S.hd]
 have q3 : w.cell? ⟨a, 3, none⟩ = some (.int .i64 c.m) := by simp [World.cell?, S.hd]
 have q4 : w.cell? ⟨a, 4, none⟩ = some (.int .u64 c.s) := by simp [World.cell?, S.hd]
 have q5 : w.cell? ⟨a, 5, none⟩ = some (.int .i64 l) := by simp [World.cell?, S.hd]
 have q6 : w.cell? ⟨a, 6, none⟩ = some (.pointer (some ⟨g, 0, none⟩)) := by simp [World.cell?, S.hd]
 go_enter Tryz.func205, Tryz.ntmps205
 go_wp2
 go_ret
 exact ⟨rfl, rfl⟩

theorem aCells_any (a g cb cap : Nat) (c : Cfg) (l : Nat) (cells : List Int) (w : World) (S : ArrOk w a g cb cap c l cells) (R : c.Ok) :
  Calls Tryz.prog 207 #[.pointer (some ⟨a, 0, none⟩)] w fun e w' => (∃ gg c, e = .returned (.slice (some ⟨gg, 0, none⟩) cells.length c) ∧ w'.ownsRow w.heap.size 2 1 (.slice (some ⟨gg, 0, none⟩) cells.length c) cells.length (i64s cells)) ∧ Below w.heap.size w w' := by
 have hn := S.len
 have hp := c.keys_pos l
 have hf := S.few
 have hw2 := R.w2
 have HC := Lib.hid (cells_any g cb cap 1 (c.keys l) cells w S.grid (by omega) (by omega))
 clear hn
 have q0 : w.cell? ⟨a, 0, none⟩ = some (.int .i64 c.b) := by simp [World.cell?, S.hd]
 have q1 : w.cell? ⟨a, 1, none⟩ = some (.int .i64 c.r) := by simp [World.cell?, S.hd]
 have q2 : w.cell? ⟨a, 2, none⟩ = some (.int .i64 c.wd) := by simp [World.cell?, S.hd]
 have q3 : w.cell? ⟨a, 3, none⟩ = some (.int .i64 c.m) := by simp [World.cell?, S.hd]
 have q4 : w.cell? ⟨a, 4, none⟩ = some (.int .u64 c.s) := by simp [World.cell?, S.hd]
 have q5 : w.cell? ⟨a, 5, none⟩ = some (.int .i64 l) := by simp [World.cell?, S.hd]
 have q6 : w.cell? ⟨a, 6, none⟩ = some (.pointer (some ⟨g, 0, none⟩)) := by simp [World.cell?, S.hd]
 go_enter Tryz.func207, Tryz.ntmps207
 go_wp2_with fail
 refine HC.out.mono ?_
 rintro e w1 ⟨⟨gg, cc, rfl, ho⟩, hb⟩
 go_wp2
 go_ret
 exact ⟨⟨_, _, rfl, ho⟩, hb⟩

theorem aPoint_any (a g cb cap : Nat) (c : Cfg) (l : Nat) (cells : List Int) (w : World) (S : ArrOk w a g cb cap c l cells) (R : c.Ok) (key : Nat) (hk : key < c.keys l) :
  Calls Tryz.prog 306 #[.pointer (some ⟨a, 0, none⟩), .int .u64 key] w fun e w' => e = .returned (.tuple #[.int .i64 (cells.getD key 0), .int .i64 0]) ∧ w = w' := by
 have hp := c.keys_pos l
 have hf := S.few
 have hw2 := R.w2
 have q0 : w.cell? ⟨a, 0, none⟩ = some (.int .i64 c.b) := by simp [World.cell?, S.hd]
 have q1 : w.cell? ⟨a, 1, none⟩ = some (.int .i64 c.r) := by simp [World.cell?, S.hd]
 have q2 : w.cell? ⟨a, 2, none⟩ = some (.int .i64 c.wd) := by simp [World.cell?, S.hd]
 have q3 : w.cell? ⟨a, 3, none⟩ = some (.int .i64 c.m) := by simp [World.cell?, S.hd]
 have q4 : w.cell? ⟨a, 4, none⟩ = some (.int .u64 c.s) := by simp [World.cell?, S.hd]
 have q5 : w.cell? ⟨a, 5, none⟩ = some (.int .i64 l) := by simp [World.cell?, S.hd]
 have q6 : w.cell? ⟨a, 6, none⟩ = some (.pointer (some ⟨g, 0, none⟩)) := by simp [World.cell?, S.hd]
 have HW := Lib.hid (width_any g cb cap 1 (c.keys l) cells w S.grid)
 have HA := Lib.hid (at0_any g cb cap (c.keys l) key cells w S.grid hk (by omega))
 generalize cells.getD key 0 = x at *
 generalize c.keys l = n at *
 go_enter Tryz.func306, Tryz.ntmps306
 go_wp2_with fail
 refine HW.out.mono ?_
 rintro e w1 ⟨rfl, rfl⟩
 have hu : IntKind.u64.wrap (n : Int) = n := by rw [IntKind.wrap_u64]; omega
 have hu2 : IntKind.i64.wrap (key : Int) = key := by rw [IntKind.wrap_i64]; omega
 have hge : decide ((n : Int) ≤ key) = false := by simp; omega
 go_wp2_with fail
 refine HA.out.mono ?_
 rintro e w1 ⟨rfl, rfl⟩
 go_wp2
 go_ret2
 exact ⟨rfl, rfl⟩

theorem aCheck_any (a g cb cap : Nat) (c : Cfg) (l : Nat) (cells : List Int) (w : World) (S : ArrOk w a g cb cap c l cells) (R : c.Ok) (key : Nat) (d : Int) (hk : key < c.keys l) (hd0 : -1152921504606846976 ≤ d) (hd1 : d ≤ 1152921504606846976) (hm : c.m = 2 → 0 ≤ d) (hs : Small cells) :
  Calls Tryz.prog 304 #[.pointer (some ⟨a, 0, none⟩), .int .u64 key, .int .i64 d] w fun e w' => e = .returned (.int .i64 0) ∧ Below w.heap.size w w' := by
 have hp := c.keys_pos l
 have hf := S.few
 have hw2 := R.w2
 have q0 : w.cell? ⟨a, 0, none⟩ = some (.int .i64 c.b) := by simp [World.cell?, S.hd]
 have q1 : w.cell? ⟨a, 1, none⟩ = some (.int .i64 c.r) := by simp [World.cell?, S.hd]
 have q2 : w.cell? ⟨a, 2, none⟩ = some (.int .i64 c.wd) := by simp [World.cell?, S.hd]
 have q3 : w.cell? ⟨a, 3, none⟩ = some (.int .i64 c.m) := by simp [World.cell?, S.hd]
 have q4 : w.cell? ⟨a, 4, none⟩ = some (.int .u64 c.s) := by simp [World.cell?, S.hd]
 have q5 : w.cell? ⟨a, 5, none⟩ = some (.int .i64 l) := by simp [World.cell?, S.hd]
 have q6 : w.cell? ⟨a, 6, none⟩ = some (.pointer (some ⟨g, 0, none⟩)) := by simp [World.cell?, S.hd]
 have HW := Lib.hid (width_any g cb cap 1 (c.keys l) cells w S.grid)
 have HA := Lib.hid (at0_any g cb cap (c.keys l) key cells w S.grid hk (by omega))
 have hsk := hs.getD key
 have hmd : ((c.m : Int) == 2) = false ∨ ((c.m : Int) == 2) = true ∧ decide (d < 0) = false := by
  by_cases h : c.m = 2
  ·have := hm h; right; simp; omega
  ·left; simp; omega
 generalize cells.getD key 0 = x at *
 generalize c.keys l = n at *
 have HP := Lib.hid (wplus_any x d w hsk.1 hsk.2 hd0 hd1)
 clear hm hs hsk
 go_enter Tryz.func304, Tryz.ntmps304
 go_wp2_with fail
 refine HW.out.mono ?_
 rintro e w1 ⟨rfl, rfl⟩
 have hu : IntKind.u64.wrap (n : Int) = n := by rw [IntKind.wrap_u64]; omega
 have hu2 : IntKind.i64.wrap (key : Int) = key := by rw [IntKind.wrap_i64]; omega
 have hge : decide ((n : Int) ≤ key) = false := by simp; omega
 rcases hmd with h1 | ⟨h1, h2⟩
 ·go_wp2_with fail
  refine HA.out.mono ?_
  rintro e w1 ⟨rfl, rfl⟩
  go_wp2_with fail
  refine HP.out.mono ?_
  rintro e w1 ⟨rfl, hb⟩
  go_wp2_with fail
  go_ret
  exact ⟨rfl, hb⟩
 ·go_wp2_with fail
  refine HA.out.mono ?_
  rintro e w1 ⟨rfl, rfl⟩
  go_wp2_with fail
  refine HP.out.mono ?_
  rintro e w1 ⟨rfl, hb⟩
  go_wp2_with fail
  go_ret
  exact ⟨rfl, hb⟩

theorem aCheck_no (a g cb cap : Nat) (c : Cfg) (l : Nat) (cells : List Int) (w : World) (S : ArrOk w a g cb cap c l cells) (R : c.Ok) (key : Nat) (d : Int) (hk : key < c.keys l) (hd : d < 0) (hm : c.m = 2) :
  Calls Tryz.prog 304 #[.pointer (some ⟨a, 0, none⟩), .int .u64 key, .int .i64 d] w fun e w' => e = .returned (.int .i64 3) ∧ Below w.heap.size w w' := by
 have hp := c.keys_pos l
 have hf := S.few
 have hw2 := R.w2
 have q0 : w.cell? ⟨a, 0, none⟩ = some (.int .i64 c.b) := by simp [World.cell?, S.hd]
 have q1 : w.cell? ⟨a, 1, none⟩ = some (.int .i64 c.r) := by simp [World.cell?, S.hd]
 have q2 : w.cell? ⟨a, 2, none⟩ = some (.int .i64 c.wd) := by simp [World.cell?, S.hd]
 have q3 : w.cell? ⟨a, 3, none⟩ = some (.int .i64 c.m) := by simp [World.cell?, S.hd]
 have q4 : w.cell? ⟨a, 4, none⟩ = some (.int .u64 c.s) := by simp [World.cell?, S.hd]
 have q5 : w.cell? ⟨a, 5, none⟩ = some (.int .i64 l) := by simp [World.cell?, S.hd]
 have q6 : w.cell? ⟨a, 6, none⟩ = some (.pointer (some ⟨g, 0, none⟩)) := by simp [World.cell?, S.hd]
 have HW := Lib.hid (width_any g cb cap 1 (c.keys l) cells w S.grid)
 have h1 : ((c.m : Int) == 2) = true := by simp; omega
 have h2 : decide (d < 0) = true := by simp; omega
 generalize c.keys l = n at *
 clear hm
 go_enter Tryz.func304, Tryz.ntmps304
 go_wp2_with fail
 refine HW.out.mono ?_
 rintro e w1 ⟨rfl, rfl⟩
 have hu : IntKind.u64.wrap (n : Int) = n := by rw [IntKind.wrap_u64]; omega
 have hge : decide ((n : Int) ≤ key) = false := by simp; omega
 go_wp2_with fail
 go_ret
 exact ⟨rfl, Below.refl _ _⟩

theorem aUpdate_any (a g cb cap : Nat) (c : Cfg) (l : Nat) (cells : List Int) (w : World) (S : ArrOk w a g cb cap c l cells) (R : c.Ok) (key : Nat) (d : Int) (hk : key < c.keys l) (hd0 : -1152921504606846976 ≤ d) (hd1 : d ≤ 1152921504606846976) (hm : c.m = 2 → 0 ≤ d) (hs : Small cells) :
  Calls Tryz.prog 307 #[.pointer (some ⟨a, 0, none⟩), .int .u64 key, .int .i64 d] w fun e w' => e = .returned (.int .i64 0) ∧ ArrOk w' a g cb cap c l (cells.set key (cells.getD key 0 + d)) ∧ w.grownBy w' (some cb) := by
 have hp := c.keys_pos l
 have hf := S.few
 have hw2 := R.w2
 have hlt := S.lt
 have HC := Lib.hid (aCheck_any a g cb cap c l cells w S R key d hk hd0 hd1 hm hs)
 have hsk := hs.getD key
 clear hm hs
 go_enter Tryz.func307, Tryz.ntmps307
 go_wp2_with fail
 refine HC.out.mono ?_
 rintro e w1 ⟨rfl, hb⟩
 have S1 := S.below hb S.lt.1 S.lt.2.1 S.lt.2.2
 have q0 : w1.cell? ⟨a, 0, none⟩ = some (.int .i64 c.b) := by simp [World.cell?, S1.hd]
 have q1 : w1.cell? ⟨a, 1, none⟩ = some (.int .i64 c.r) := by simp [World.cell?, S1.hd]
 have q2 : w1.cell? ⟨a, 2, none⟩ = some (.int .i64 c.wd) := by simp [World.cell?, S1.hd]
 have q3 : w1.cell? ⟨a, 3, none⟩ = some (.int .i64 c.m) := by simp [World.cell?, S1.hd]
 have q4 : w1.cell? ⟨a, 4, none⟩ = some (.int .u64 c.s) := by simp [World.cell?, S1.hd]
 have q5 : w1.cell? ⟨a, 5, none⟩ = some (.int .i64 l) := by simp [World.cell?, S1.hd]
 have q6 : w1.cell? ⟨a, 6, none⟩ = some (.pointer (some ⟨g, 0, none⟩)) := by simp [World.cell?, S1.hd]
 have HA := Lib.hid fun k : After w1.heap.size w1 => at0_any g cb cap (c.keys l) key cells k.w (S1.grid.below k.h S1.lt.2.1 S1.lt.2.2) hk (by omega)
 have hu2 : IntKind.i64.wrap (key : Int) = key := by rw [IntKind.wrap_i64]; omega
 have hu3 : IntKind.i64.wrap (cells.getD key 0 + d) = cells.getD key 0 + d := by rw [IntKind.wrap_i64]; omega
 obtain ⟨y, hy⟩ : ∃ y, cells.getD key 0 + d = y := ⟨_, rfl⟩
 rw [hy] at hu3
 have HY := Lib.hid hy
 obtain ⟨x, hx⟩ : ∃ x, cells.getD key 0 = x := ⟨_, rfl⟩
 rw [hx] at hsk HA hy
 clear hx
 go_wp2_with fail
 refine wp_region_mixA w1.heap.size [0, 1, 2, 3, 4, 5, 6, 7, 8, 9, 10, 11, 12, 13, 14] [15] (by kernel_rfl) (by kernel_rfl) rfl ?_
 simp only [opsAt, List.map_cons, List.map_nil, List.getElem?_toArray, List.getElem?_cons_zero, List.getElem?_cons_succ, Option.getD_some]
 have zq0 := fun k : After w1.heap.size w1 => k.cell (S1.lt.1) q0
 have zq1 := fun k : After w1.heap.size w1 => k.cell (S1.lt.1) q1
 have zq2 := fun k : After w1.heap.size w1 => k.cell (S1.lt.1) q2
 have zq3 := fun k : After w1.heap.size w1 => k.cell (S1.lt.1) q3
 have zq4 := fun k : After w1.heap.size w1 => k.cell (S1.lt.1) q4
 have zq5 := fun k : After w1.heap.size w1 => k.cell (S1.lt.1) q5
 have zq6 := fun k : After w1.heap.size w1 => k.cell (S1.lt.1) q6
 repeat (go_big_quiet_step (first | (go_at_call 309; exact after_eq _ (HA.out _))))
 refine wpQuiet_nil ?_
 intro kk
 unfold calmQ
 have kb := kk.h
 clear zq0 zq1 zq2 zq3 zq4 zq5 zq6
 obtain ⟨w2, hw1⟩ : ∃ w2, kk.w = w2 := ⟨_, rfl⟩
 rw [hw1] at kb
 rw [hw1]
 clear hw1
 have S2 := S1.below kb S1.lt.1 S1.lt.2.1 S1.lt.2.2
 have HP := Lib.hid (put0_any g cb cap (c.keys l) key y cells w2 S2.grid hk (by omega))
 clear q0 q1 q2 q3 q4 q5 q6
 go_wp2_with fail
 refine HP.out.mono ?_
 rintro e w3 ⟨rfl, rfl⟩
 have hset := S2.grid.set key y
 have hb2 := hb.trans (kb.mono hb.size)
 have hgs := grown_trans (grown_of_below hb2 (some cb)) (grown_set w2 cb key (.int .i64 y))
 have S3 := S2.turned hset (grown_set w2 cb key (.int .i64 y))
 clear hset
 go_wp2
 go_ret
 exact ⟨rfl, by rw [HY.out]; exact S3, hgs⟩
end Go.Proofs.YtbhppbeepmllaaaGreatDoor

namespace Go.Proofs.YtbhppbeepmllaaaGreatDoor
open Go.RowKit

theorem aLoad_any (a g cb cap lg lc : Nat) (c : Cfg) (l : Nat) (cells ys : List Int) (w : World) (S : ArrOk w a g cb cap c l cells) (R : c.Ok) (hl : ys.length = c.keys l)
  (hy : w.ownsRow 0 2 1 (.slice (some ⟨lg, 0, none⟩) ys.length lc) ys.length (i64s ys)) (hne : lg ≠ cb) :
  Calls Tryz.prog 305 #[.pointer (some ⟨a, 0, none⟩), .slice (some ⟨lg, 0, none⟩) ys.length lc] w fun e w' => e = .returned (.bool true) ∧ ArrOk w' a g cb cap c l ys ∧ w.grownBy w' (some cb) := by
 have hp := c.keys_pos l
 have hf := S.few
 have hw2 := R.w2
 have q0 : w.cell? ⟨a, 0, none⟩ = some (.int .i64 c.b) := by simp [World.cell?, S.hd]
 have q1 : w.cell? ⟨a, 1, none⟩ = some (.int .i64 c.r) := by simp [World.cell?, S.hd]
 have q2 : w.cell? ⟨a, 2, none⟩ = some (.int .i64 c.wd) := by simp [World.cell?, S.hd]
 have q3 : w.cell? ⟨a, 3, none⟩ = some (.int .i64 c.m) := by simp [World.cell?, S.hd]
 have q4 : w.cell? ⟨a, 4, none⟩ = some (.int .u64 c.s) := by simp [World.cell?, S.hd]
 have q5 : w.cell? ⟨a, 5, none⟩ = some (.int .i64 l) := by simp [World.cell?, S.hd]
 have q6 : w.cell? ⟨a, 6, none⟩ = some (.pointer (some ⟨g, 0, none⟩)) := by simp [World.cell?, S.hd]
 have HW := Lib.hid (width_any g cb cap 1 (c.keys l) cells w S.grid)
 have hSl := S.len
 obtain ⟨n, hn⟩ : ∃ n, c.keys l = n := ⟨_, rfl⟩
 have HN := Lib.hid hn
 rw [hn] at HW hp hf hl hSl
 have hsz := Lib.hid hSl
 clear hn hSl
 rw [hl] at hy ⊢
 go_enter Tryz.func305, Tryz.ntmps305
 go_wp2_with fail
 refine HW.out.mono ?_
 rintro e w1 ⟨rfl, rfl⟩
 go_wp2_with fail
 have hg0 := grown_of_below (Below.refl w.heap.size w) (some cb)
 have G0 := S.grid
 go_loopw [17] (fun i wr => ∃ k : Nat, k ≤ n ∧ i = .int .i64 k ∧ GridOk wr g cb cap 1 (c.keys l) (loadK cells ys k) ∧ w.grownBy wr (some cb)) (fun i _ => n - (intOf i).toNat)
 case atStart => exact ⟨0, by omega, rfl, by simpa [loadK] using G0, hg0⟩
 case round =>
  obtain ⟨k, hk, rfl, hG, hg⟩ := hrel
  by_cases hlt : k < n
  ·obtain ⟨x, hx⟩ : ∃ x, ys[k]? = some x := ⟨_, List.getElem?_eq_getElem (by omega)⟩
   have hcell : wr.cell? ⟨lg, k, none⟩ = some (.int .i64 x) := by
    rw [World.cell?_of_block (w := w) (hg.block lg (ints_lt hy) (by intro e; cases e; exact hne rfl)), hy.cellAt k (by omega)]
    exact i64s_at hx
   have Sr := S.turned hG hg
   have HP := Lib.hid (put0_any g cb cap (c.keys l) k x (loadK cells ys k) wr hG (by rw [HN.out]; exact hlt) (by rw [HN.out]; omega))
   have hset := hG.set k x
   rw [loadK_set cells ys k x hx (by rw [hsz.out, hl])] at hset
   have hgs := grown_trans hg (grown_set wr cb k (.int .i64 x))
   clear hx
   have p0 : wr.cell? ⟨a, 0, none⟩ = some (.int .i64 c.b) := by simp [World.cell?, Sr.hd]
   have p1 : wr.cell? ⟨a, 1, none⟩ = some (.int .i64 c.r) := by simp [World.cell?, Sr.hd]
   have p2 : wr.cell? ⟨a, 2, none⟩ = some (.int .i64 c.wd) := by simp [World.cell?, Sr.hd]
   have p3 : wr.cell? ⟨a, 3, none⟩ = some (.int .i64 c.m) := by simp [World.cell?, Sr.hd]
   have p4 : wr.cell? ⟨a, 4, none⟩ = some (.int .u64 c.s) := by simp [World.cell?, Sr.hd]
   have p5 : wr.cell? ⟨a, 5, none⟩ = some (.int .i64 l) := by simp [World.cell?, Sr.hd]
   have p6 : wr.cell? ⟨a, 6, none⟩ = some (.pointer (some ⟨g, 0, none⟩)) := by simp [World.cell?, Sr.hd]
   clear q0 q1 q2 q3 q4 q5 q6
   go_wp2_with fail
   refine HP.out.mono ?_
   rintro e w3 ⟨rfl, rfl⟩
   go_wp2
   go_roundw
   case rel => exact ⟨k + 1, by omega, by go_num, hset, hgs⟩
   case measure => simp [intOf]; omega
  ·obtain rfl : k = n := by omega
   go_wp2
   go_ret
   have e : loadK cells ys k = ys := by
    have h1 := hsz.out
    unfold loadK
    rw [List.take_of_length_le (by omega), List.drop_eq_nil_of_le (by omega), List.append_nil]
   rw [e] at hG
   exact ⟨rfl, S.turned hG hg, hg⟩

structure NewArr (B : Nat) (w' : World) (a g cb cap : Nat) (c : Cfg) (l : Nat) (cells : List Int) : Prop where
 ok : ArrOk w' a g cb cap c l cells
 a1 : B ≤ a
 g1 : B ≤ g
 c1 : B ≤ cb

theorem aCopy_any (a g cb cap : Nat) (c : Cfg) (l : Nat) (cells : List Int) (w : World) (S : ArrOk w a g cb cap c l cells) (R : c.Ok) :
  Calls Tryz.prog 219 #[.pointer (some ⟨a, 0, none⟩)] w fun e w' => (∃ a' g' cb' cap', e = .returned (.pointer (some ⟨a', 0, none⟩)) ∧ NewArr w.heap.size w' a' g' cb' cap' c l cells) ∧ Below w.heap.size w w' := by
 have hn := S.len
 have hp := c.keys_pos l
 have hf := S.few
 have hw2 := R.w2
 have hc := fun (k : After w.heap.size w) => (gcopy_any g cb cap 1 (c.keys l) cells k.w (S.grid.below k.h S.lt.2.1 S.lt.2.2) (by omega) (by omega))
 have HC := Lib.hid (gcopy_any g cb cap 1 (c.keys l) cells w.drew (S.grid.drewN 1) (by omega) (by omega))
 clear hn hc
 have q0 : w.cell? ⟨a, 0, none⟩ = some (.int .i64 c.b) := by simp [World.cell?, S.hd]
 have q1 : w.cell? ⟨a, 1, none⟩ = some (.int .i64 c.r) := by simp [World.cell?, S.hd]
 have q2 : w.cell? ⟨a, 2, none⟩ = some (.int .i64 c.wd) := by simp [World.cell?, S.hd]
 have q3 : w.cell? ⟨a, 3, none⟩ = some (.int .i64 c.m) := by simp [World.cell?, S.hd]
 have q4 : w.cell? ⟨a, 4, none⟩ = some (.int .u64 c.s) := by simp [World.cell?, S.hd]
 have q5 : w.cell? ⟨a, 5, none⟩ = some (.int .i64 l) := by simp [World.cell?, S.hd]
 have q6 : w.cell? ⟨a, 6, none⟩ = some (.pointer (some ⟨g, 0, none⟩)) := by simp [World.cell?, S.hd]
 have hlt := S.lt.1
 go_enter Tryz.func219, Tryz.ntmps219
 go_wp2_with fail
 go_region_held3 (fun w' => w'.cell? ⟨a, 0, none⟩ = some (.int .i64 c.b) ∧ w'.cell? ⟨a, 1, none⟩ = some (.int .i64 c.r) ∧ w'.cell? ⟨a, 2, none⟩ = some (.int .i64 c.wd) ∧ w'.cell? ⟨a, 3, none⟩ = some (.int .i64 c.m) ∧ w'.cell? ⟨a, 4, none⟩ = some (.int .u64 c.s) ∧ w'.cell? ⟨a, 5, none⟩ = some (.int .i64 l) ∧ w'.cell? ⟨a, 6, none⟩ = some (.pointer (some ⟨g, 0, none⟩)))
  (first | go_keep | exact ⟨(hb.cell (p := ⟨a, 0, none⟩) (hlt)).trans q0, (hb.cell (p := ⟨a, 1, none⟩) (hlt)).trans q1, (hb.cell (p := ⟨a, 2, none⟩) (hlt)).trans q2, (hb.cell (p := ⟨a, 3, none⟩) (hlt)).trans q3, (hb.cell (p := ⟨a, 4, none⟩) (hlt)).trans q4, (hb.cell (p := ⟨a, 5, none⟩) (hlt)).trans q5, (hb.cell (p := ⟨a, 6, none⟩) (hlt)).trans q6⟩)
  (first | (go_at_call 247; refine HC.out.mono ?_; rintro e w1 ⟨⟨g', cb', cap', rfl, hN⟩, hb⟩))
 go_wp2
 go_ret
 have hl := hN.ok.lt
 have hbs : w.heap.size ≤ w1.heap.size := hb.size
 have hb' : Below w.heap.size w w1 := below_drew_left hb
 exact ⟨⟨w1.heap.size, g', cb', cap', rfl, ⟨⟨heap_alloc_new _ _, hN.ok.keep (heap_alloc_old _ _ hl.1) (heap_alloc_old _ _ hl.2), hf⟩, hbs, hN.g1, hN.c1⟩⟩, hb'.alloc hbs _⟩

theorem gnew1_any (width : Nat) (w : World) (h3 : 1 ≤ width) (h4 : width ≤ 128) :
  Calls Tryz.prog 173 #[.int .i64 1, .int .i64 width] w fun e w' => (∃ g' cb' cap', e = .returned (.pointer (some ⟨g', 0, none⟩)) ∧ NewGrid w.heap.size w' g' cb' cap' 1 width (List.replicate width 0)) ∧ Below w.heap.size w w' := by
 have h := gnew_any 1 width w (by omega) (by omega) h3 h4
 rw [Nat.one_mul] at h
 exact h

theorem aNew_any (c : Cfg) (l : Nat) (w : World) (R : c.Ok) (hl : l ≤ c.b) (he : c.keys l ≤ c.wd) :
  Calls Tryz.prog 135 #[.agg #[.int .i64 c.b, .int .i64 c.r, .int .i64 c.wd, .int .i64 c.m, .int .u64 c.s], .int .i64 l] w fun e w' => (∃ a' g' cb' cap', e = .returned (.tuple #[.pointer (some ⟨a', 0, none⟩), .int .i64 0]) ∧ NewArr w.heap.size w' a' g' cb' cap' c l (List.replicate (c.keys l) 0)) ∧ Below w.heap.size w w' := by
 have hw2 := R.w2
 have hp := c.keys_pos l
 have hkv : keysV c.b l = (c.keys l : Int) := keysV_nat c.b l
 have he1 := exact_any c.b c.r c.wd c.m c.s l
 have HE := Lib.hid fun w => exact_any c.b c.r c.wd c.m c.s l w R.rc (by omega) (by omega)
 have HK := Lib.hid fun w => keys_any c.b c.r c.wd c.m c.s l w R.rc (by omega) (by omega)
 rw [hkv] at HK HE
 have hde : decide ((c.keys l : Int) ≤ c.wd) = true := by simp; omega
 rw [hde] at HE
 have HG := Lib.hid fun w => gnew1_any (c.keys l) w hp (by omega)
 obtain ⟨n, hn⟩ : ∃ n, c.keys l = n := ⟨_, rfl⟩
 have HN := Lib.hid hn
 rw [hn] at HK HG hp he ⊢
 have hu : IntKind.i64.wrap (n : Int) = n := by rw [IntKind.wrap_i64]; omega
 clear hn hkv he1 hde
 go_enter Tryz.func135, Tryz.ntmps135
 go_wp2_with fail
 refine (HE.out _).mono ?_
 rintro e w1 ⟨rfl, hb1⟩
 have kb := below_alloc hb1
 have hlt : w.heap.size < w1.heap.size := by have := hb1.size; simp at this; omega
 have q0 : w1.cell? ⟨w.heap.size, 0, none⟩ = some (.int .i64 c.b) := (hb1.cell (p := ⟨w.heap.size, 0, none⟩) (by simp)).trans (by go_simp)
 have q1 : w1.cell? ⟨w.heap.size, 1, none⟩ = some (.int .i64 c.r) := (hb1.cell (p := ⟨w.heap.size, 1, none⟩) (by simp)).trans (by go_simp)
 have q2 : w1.cell? ⟨w.heap.size, 2, none⟩ = some (.int .i64 c.wd) := (hb1.cell (p := ⟨w.heap.size, 2, none⟩) (by simp)).trans (by go_simp)
 have q3 : w1.cell? ⟨w.heap.size, 3, none⟩ = some (.int .i64 c.m) := (hb1.cell (p := ⟨w.heap.size, 3, none⟩) (by simp)).trans (by go_simp)
 have q4 : w1.cell? ⟨w.heap.size, 4, none⟩ = some (.int .u64 c.s) := (hb1.cell (p := ⟨w.heap.size, 4, none⟩) (by simp)).trans (by go_simp)
 go_wp2_with fail
 go_region_held3 (fun w' => w'.cell? ⟨w.heap.size, 0, none⟩ = some (.int .i64 c.b) ∧ w'.cell? ⟨w.heap.size, 1, none⟩ = some (.int .i64 c.r) ∧ w'.cell? ⟨w.heap.size, 2, none⟩ = some (.int .i64 c.wd) ∧ w'.cell? ⟨w.heap.size, 3, none⟩ = some (.int .i64 c.m) ∧ w'.cell? ⟨w.heap.size, 4, none⟩ = some (.int .u64 c.s))
  (first | go_keep | exact ⟨(hb3.cell (p := ⟨w.heap.size, 0, none⟩) (hlt)).trans q0, (hb3.cell (p := ⟨w.heap.size, 1, none⟩) (hlt)).trans q1, (hb3.cell (p := ⟨w.heap.size, 2, none⟩) (hlt)).trans q2, (hb3.cell (p := ⟨w.heap.size, 3, none⟩) (hlt)).trans q3, (hb3.cell (p := ⟨w.heap.size, 4, none⟩) (hlt)).trans q4⟩ | exact ⟨(hb4.cell (p := ⟨w.heap.size, 0, none⟩) (Nat.lt_of_lt_of_le (hlt) hb3.size)).trans ((hb3.cell (p := ⟨w.heap.size, 0, none⟩) (hlt)).trans q0), (hb4.cell (p := ⟨w.heap.size, 1, none⟩) (Nat.lt_of_lt_of_le (hlt) hb3.size)).trans ((hb3.cell (p := ⟨w.heap.size, 1, none⟩) (hlt)).trans q1), (hb4.cell (p := ⟨w.heap.size, 2, none⟩) (Nat.lt_of_lt_of_le (hlt) hb3.size)).trans ((hb3.cell (p := ⟨w.heap.size, 2, none⟩) (hlt)).trans q2), (hb4.cell (p := ⟨w.heap.size, 3, none⟩) (Nat.lt_of_lt_of_le (hlt) hb3.size)).trans ((hb3.cell (p := ⟨w.heap.size, 3, none⟩) (hlt)).trans q3), (hb4.cell (p := ⟨w.heap.size, 4, none⟩) (Nat.lt_of_lt_of_le (hlt) hb3.size)).trans ((hb3.cell (p := ⟨w.heap.size, 4, none⟩) (hlt)).trans q4)⟩)
  (first | (go_at_call 64; refine (HK.out _).mono ?_; rintro e w3 ⟨rfl, hb3⟩) | (go_at_call 173; refine (HG.out _).mono ?_; rintro e w4 ⟨⟨g', cb', cap', rfl, hN⟩, hb4⟩))
 go_wp2
 go_ret2
 have hl := hN.ok.lt
 have kb3 := kb.trans ((below_drew_left hb3).mono kb.size)
 have kb4 := kb3.trans (hb4.mono kb3.size)
 have h1 : w.heap.size ≤ w3.heap.size := kb3.size
 have g1 : w3.heap.size ≤ g' := hN.g1
 have c1 : w3.heap.size ≤ cb' := hN.c1
 exact ⟨⟨w4.heap.size, g', cb', cap', rfl, ⟨⟨heap_alloc_new _ _, by rw [HN.out]; exact hN.ok.keep (heap_alloc_old _ _ hl.1) (heap_alloc_old _ _ hl.2), by rw [HN.out]; exact he⟩, kb4.size, by omega, by omega⟩⟩, kb4.alloc kb4.size _⟩

theorem aJoin238_any (a1 g1 cb1 cap1 a2 g2 cb2 cap2 : Nat) (c : Cfg) (l : Nat) (xs ys : List Int) (w : World) (S : ArrOk w a1 g1 cb1 cap1 c l xs) (T : ArrOk w a2 g2 cb2 cap2 c l ys) (R : c.Ok) (op : Int → Int → Int)
  (HP : ∀ w, GridOk w g1 cb1 cap1 1 (c.keys l) xs → GridOk w g2 cb2 cap2 1 (c.keys l) ys → Calls Tryz.prog 238 #[.pointer (some ⟨g1, 0, none⟩), .pointer (some ⟨g2, 0, none⟩)] w fun e w' =>
   e = .returned (.int .i64 0) ∧ GridOk w' g1 cb1 cap1 1 (c.keys l) (zipI op xs ys) ∧ w.grownBy w' (some cb1)) :
  Calls Tryz.prog 239 #[.pointer (some ⟨a1, 0, none⟩), .pointer (some ⟨a2, 0, none⟩), (.func (.func 238) #[] #[]), .bool true] w fun e w' => e = .returned (.int .i64 0) ∧ ArrOk w' a1 g1 cb1 cap1 c l (zipI op xs ys) ∧ w.grownBy w' (some cb1) := by
 have q0 : w.cell? ⟨a1, 0, none⟩ = some (.int .i64 c.b) := by simp [World.cell?, S.hd]
 have q1 : w.cell? ⟨a1, 1, none⟩ = some (.int .i64 c.r) := by simp [World.cell?, S.hd]
 have q2 : w.cell? ⟨a1, 2, none⟩ = some (.int .i64 c.wd) := by simp [World.cell?, S.hd]
 have q3 : w.cell? ⟨a1, 3, none⟩ = some (.int .i64 c.m) := by simp [World.cell?, S.hd]
 have q4 : w.cell? ⟨a1, 4, none⟩ = some (.int .u64 c.s) := by simp [World.cell?, S.hd]
 have q5 : w.cell? ⟨a1, 5, none⟩ = some (.int .i64 l) := by simp [World.cell?, S.hd]
 have q6 : w.cell? ⟨a1, 6, none⟩ = some (.pointer (some ⟨g1, 0, none⟩)) := by simp [World.cell?, S.hd]
 have p0 : w.cell? ⟨a2, 0, none⟩ = some (.int .i64 c.b) := by simp [World.cell?, T.hd]
 have p1 : w.cell? ⟨a2, 1, none⟩ = some (.int .i64 c.r) := by simp [World.cell?, T.hd]
 have p2 : w.cell? ⟨a2, 2, none⟩ = some (.int .i64 c.wd) := by simp [World.cell?, T.hd]
 have p3 : w.cell? ⟨a2, 3, none⟩ = some (.int .i64 c.m) := by simp [World.cell?, T.hd]
 have p4 : w.cell? ⟨a2, 4, none⟩ = some (.int .u64 c.s) := by simp [World.cell?, T.hd]
 have p5 : w.cell? ⟨a2, 5, none⟩ = some (.int .i64 l) := by simp [World.cell?, T.hd]
 have p6 : w.cell? ⟨a2, 6, none⟩ = some (.pointer (some ⟨g2, 0, none⟩)) := by simp [World.cell?, T.hd]
 have HPH := Lib.hid HP
 clear HP
 go_enter Tryz.func239, Tryz.ntmps239
 go_wp2_with fail
 go_quiet (fail)
 have hb := below_drewN (Below.refl w.heap.size w) nq
 obtain ⟨w1, hw1⟩ : ∃ w1, w.drewN nq = w1 := ⟨_, rfl⟩
 rw [hw1] at hb
 rw [hw1]
 clear hw1
 have S1 := S.below hb S.lt.1 S.lt.2.1 S.lt.2.2
 have T1 := T.below hb T.lt.1 T.lt.2.1 T.lt.2.2
 clear q0 q1 q2 q3 q4 q5 q6 p0 p1 p2 p3 p4 p5 p6
 have q0 : w1.cell? ⟨a1, 0, none⟩ = some (.int .i64 c.b) := by simp [World.cell?, S1.hd]
 have q1 : w1.cell? ⟨a1, 1, none⟩ = some (.int .i64 c.r) := by simp [World.cell?, S1.hd]
 have q2 : w1.cell? ⟨a1, 2, none⟩ = some (.int .i64 c.wd) := by simp [World.cell?, S1.hd]
 have q3 : w1.cell? ⟨a1, 3, none⟩ = some (.int .i64 c.m) := by simp [World.cell?, S1.hd]
 have q4 : w1.cell? ⟨a1, 4, none⟩ = some (.int .u64 c.s) := by simp [World.cell?, S1.hd]
 have q5 : w1.cell? ⟨a1, 5, none⟩ = some (.int .i64 l) := by simp [World.cell?, S1.hd]
 have q6 : w1.cell? ⟨a1, 6, none⟩ = some (.pointer (some ⟨g1, 0, none⟩)) := by simp [World.cell?, S1.hd]
 have p0 : w1.cell? ⟨a2, 0, none⟩ = some (.int .i64 c.b) := by simp [World.cell?, T1.hd]
 have p1 : w1.cell? ⟨a2, 1, none⟩ = some (.int .i64 c.r) := by simp [World.cell?, T1.hd]
 have p2 : w1.cell? ⟨a2, 2, none⟩ = some (.int .i64 c.wd) := by simp [World.cell?, T1.hd]
 have p3 : w1.cell? ⟨a2, 3, none⟩ = some (.int .i64 c.m) := by simp [World.cell?, T1.hd]
 have p4 : w1.cell? ⟨a2, 4, none⟩ = some (.int .u64 c.s) := by simp [World.cell?, T1.hd]
 have p5 : w1.cell? ⟨a2, 5, none⟩ = some (.int .i64 l) := by simp [World.cell?, T1.hd]
 have p6 : w1.cell? ⟨a2, 6, none⟩ = some (.pointer (some ⟨g2, 0, none⟩)) := by simp [World.cell?, T1.hd]
 go_wp2_with fail
 refine wp_region_mixA w1.heap.size [0, 1, 2, 3, 4, 5, 6, 7, 8] [9, 10] (by kernel_rfl) (by kernel_rfl) rfl ?_
 simp only [opsAt, List.map_cons, List.map_nil, List.getElem?_toArray, List.getElem?_cons_zero, List.getElem?_cons_succ, Option.getD_some]
 have zq0 := fun k : After w1.heap.size w1 => k.cell (S1.lt.1) q0
 have zq1 := fun k : After w1.heap.size w1 => k.cell (S1.lt.1) q1
 have zq2 := fun k : After w1.heap.size w1 => k.cell (S1.lt.1) q2
 have zq3 := fun k : After w1.heap.size w1 => k.cell (S1.lt.1) q3
 have zq4 := fun k : After w1.heap.size w1 => k.cell (S1.lt.1) q4
 have zq5 := fun k : After w1.heap.size w1 => k.cell (S1.lt.1) q5
 have zq6 := fun k : After w1.heap.size w1 => k.cell (S1.lt.1) q6
 have zp0 := fun k : After w1.heap.size w1 => k.cell (T1.lt.1) p0
 have zp1 := fun k : After w1.heap.size w1 => k.cell (T1.lt.1) p1
 have zp2 := fun k : After w1.heap.size w1 => k.cell (T1.lt.1) p2
 have zp3 := fun k : After w1.heap.size w1 => k.cell (T1.lt.1) p3
 have zp4 := fun k : After w1.heap.size w1 => k.cell (T1.lt.1) p4
 have zp5 := fun k : After w1.heap.size w1 => k.cell (T1.lt.1) p5
 have zp6 := fun k : After w1.heap.size w1 => k.cell (T1.lt.1) p6
 repeat (go_big_quiet_step (fail))
 refine wpQuiet_nil ?_
 intro kk
 unfold calmQ
 have kb := kk.h
 clear zq0 zq1 zq2 zq3 zq4 zq5 zq6 zp0 zp1 zp2 zp3 zp4 zp5 zp6
 obtain ⟨w2, hw1⟩ : ∃ w2, kk.w = w2 := ⟨_, rfl⟩
 rw [hw1] at kb
 rw [hw1]
 clear hw1
 have S2 := S1.below kb S1.lt.1 S1.lt.2.1 S1.lt.2.2
 have T2 := T1.below kb T1.lt.1 T1.lt.2.1 T1.lt.2.2
 have hb2 := hb.trans (kb.mono hb.size)
 have HP := Lib.hid (HPH.out w2 S2.grid T2.grid)
 clear q0 q1 q2 q3 q4 q5 q6 p0 p1 p2 p3 p4 p5 p6
 go_wp2_with fail
 refine HP.out.mono ?_
 rintro e w3 ⟨rfl, hG, hg⟩
 go_wp2
 go_ret
 exact ⟨rfl, S2.turned hG hg, grown_trans (grown_of_below hb2 _) hg⟩

theorem aJoin240_any (a1 g1 cb1 cap1 a2 g2 cb2 cap2 : Nat) (c : Cfg) (l : Nat) (xs ys : List Int) (w : World) (S : ArrOk w a1 g1 cb1 cap1 c l xs) (T : ArrOk w a2 g2 cb2 cap2 c l ys) (R : c.Ok) (op : Int → Int → Int)
  (HP : ∀ w, GridOk w g1 cb1 cap1 1 (c.keys l) xs → GridOk w g2 cb2 cap2 1 (c.keys l) ys → Calls Tryz.prog 240 #[.pointer (some ⟨g1, 0, none⟩), .pointer (some ⟨g2, 0, none⟩)] w fun e w' =>
   e = .returned (.int .i64 0) ∧ GridOk w' g1 cb1 cap1 1 (c.keys l) (zipI op xs ys) ∧ w.grownBy w' (some cb1)) :
  Calls Tryz.prog 239 #[.pointer (some ⟨a1, 0, none⟩), .pointer (some ⟨a2, 0, none⟩), (.func (.func 240) #[] #[]), .bool true] w fun e w' => e = .returned (.int .i64 0) ∧ ArrOk w' a1 g1 cb1 cap1 c l (zipI op xs ys) ∧ w.grownBy w' (some cb1) := by
 have q0 : w.cell? ⟨a1, 0, none⟩ = some (.int .i64 c.b) := by simp [World.cell?, S.hd]
 have q1 : w.cell? ⟨a1, 1, none⟩ = some (.int .i64 c.r) := by simp [World.cell?, S.hd]
 have q2 : w.cell? ⟨a1, 2, none⟩ = some (.int .i64 c.wd) := by simp [World.cell?, S.hd]
 have q3 : w.cell? ⟨a1, 3, none⟩ = some (.int .i64 c.m) := by simp [World.cell?, S.hd]
 have q4 : w.cell? ⟨a1, 4, none⟩ = some (.int .u64 c.s) := by simp [World.cell?, S.hd]
 have q5 : w.cell? ⟨a1, 5, none⟩ = some (.int .i64 l) := by simp [World.cell?, S.hd]
 have q6 : w.cell? ⟨a1, 6, none⟩ = some (.pointer (some ⟨g1, 0, none⟩)) := by simp [World.cell?, S.hd]
 have p0 : w.cell? ⟨a2, 0, none⟩ = some (.int .i64 c.b) := by simp [World.cell?, T.hd]
 have p1 : w.cell? ⟨a2, 1, none⟩ = some (.int .i64 c.r) := by simp [World.cell?, T.hd]
 have p2 : w.cell? ⟨a2, 2, none⟩ = some (.int .i64 c.wd) := by simp [World.cell?, T.hd]
 have p3 : w.cell? ⟨a2, 3, none⟩ = some (.int .i64 c.m) := by simp [World.cell?, T.hd]
 have p4 : w.cell? ⟨a2, 4, none⟩ = some (.int .u64 c.s) := by simp [World.cell?, T.hd]
 have p5 : w.cell? ⟨a2, 5, none⟩ = some (.int .i64 l) := by simp [World.cell?, T.hd]
 have p6 : w.cell? ⟨a2, 6, none⟩ = some (.pointer (some ⟨g2, 0, none⟩)) := by simp [World.cell?, T.hd]
 have HPH := Lib.hid HP
 clear HP
 go_enter Tryz.func239, Tryz.ntmps239
 go_wp2_with fail
 go_quiet (fail)
 have hb := below_drewN (Below.refl w.heap.size w) nq
 obtain ⟨w1, hw1⟩ : ∃ w1, w.drewN nq = w1 := ⟨_, rfl⟩
 rw [hw1] at hb
 rw [hw1]
 clear hw1
 have S1 := S.below hb S.lt.1 S.lt.2.1 S.lt.2.2
 have T1 := T.below hb T.lt.1 T.lt.2.1 T.lt.2.2
 clear q0 q1 q2 q3 q4 q5 q6 p0 p1 p2 p3 p4 p5 p6
 have q0 : w1.cell? ⟨a1, 0, none⟩ = some (.int .i64 c.b) := by simp [World.cell?, S1.hd]
 have q1 : w1.cell? ⟨a1, 1, none⟩ = some (.int .i64 c.r) := by simp [World.cell?, S1.hd]
 have q2 : w1.cell? ⟨a1, 2, none⟩ = some (.int .i64 c.wd) := by simp [World.cell?, S1.hd]
 have q3 : w1.cell? ⟨a1, 3, none⟩ = some (.int .i64 c.m) := by simp [World.cell?, S1.hd]
 have q4 : w1.cell? ⟨a1, 4, none⟩ = some (.int .u64 c.s) := by simp [World.cell?, S1.hd]
 have q5 : w1.cell? ⟨a1, 5, none⟩ = some (.int .i64 l) := by simp [World.cell?, S1.hd]
 have q6 : w1.cell? ⟨a1, 6, none⟩ = some (.pointer (some ⟨g1, 0, none⟩)) := by simp [World.cell?, S1.hd]
 have p0 : w1.cell? ⟨a2, 0, none⟩ = some (.int .i64 c.b) := by simp [World.cell?, T1.hd]
 have p1 : w1.cell? ⟨a2, 1, none⟩ = some (.int .i64 c.r) := by simp [World.cell?, T1.hd]
 have p2 : w1.cell? ⟨a2, 2, none⟩ = some (.int .i64 c.wd) := by simp [World.cell?, T1.hd]
 have p3 : w1.cell? ⟨a2, 3, none⟩ = some (.int .i64 c.m) := by simp [World.cell?, T1.hd]
 have p4 : w1.cell? ⟨a2, 4, none⟩ = some (.int .u64 c.s) := by simp [World.cell?, T1.hd]
 have p5 : w1.cell? ⟨a2, 5, none⟩ = some (.int .i64 l) := by simp [World.cell?, T1.hd]
 have p6 : w1.cell? ⟨a2, 6, none⟩ = some (.pointer (some ⟨g2, 0, none⟩)) := by simp [World.cell?, T1.hd]
 go_wp2_with fail
 refine wp_region_mixA w1.heap.size [0, 1, 2, 3, 4, 5, 6, 7, 8] [9, 10] (by kernel_rfl) (by kernel_rfl) rfl ?_
 simp only [opsAt, List.map_cons, List.map_nil, List.getElem?_toArray, List.getElem?_cons_zero, List.getElem?_cons_succ, Option.getD_some]
 have zq0 := fun k : After w1.heap.size w1 => k.cell (S1.lt.1) q0
 have zq1 := fun k : After w1.heap.size w1 => k.cell (S1.lt.1) q1
 have zq2 := fun k : After w1.heap.size w1 => k.cell (S1.lt.1) q2
 have zq3 := fun k : After w1.heap.size w1 => k.cell (S1.lt.1) q3
 have zq4 := fun k : After w1.heap.size w1 => k.cell (S1.lt.1) q4
 have zq5 := fun k : After w1.heap.size w1 => k.cell (S1.lt.1) q5
 have zq6 := fun k : After w1.heap.size w1 => k.cell (S1.lt.1) q6
 have zp0 := fun k : After w1.heap.size w1 => k.cell (T1.lt.1) p0
 have zp1 := fun k : After w1.heap.size w1 => k.cell (T1.lt.1) p1
 have zp2 := fun k : After w1.heap.size w1 => k.cell (T1.lt.1) p2
 have zp3 := fun k : After w1.heap.size w1 => k.cell (T1.lt.1) p3
 have zp4 := fun k : After w1.heap.size w1 => k.cell (T1.lt.1) p4
 have zp5 := fun k : After w1.heap.size w1 => k.cell (T1.lt.1) p5
 have zp6 := fun k : After w1.heap.size w1 => k.cell (T1.lt.1) p6
 repeat (go_big_quiet_step (fail))
 refine wpQuiet_nil ?_
 intro kk
 unfold calmQ
 have kb := kk.h
 clear zq0 zq1 zq2 zq3 zq4 zq5 zq6 zp0 zp1 zp2 zp3 zp4 zp5 zp6
 obtain ⟨w2, hw1⟩ : ∃ w2, kk.w = w2 := ⟨_, rfl⟩
 rw [hw1] at kb
 rw [hw1]
 clear hw1
 have S2 := S1.below kb S1.lt.1 S1.lt.2.1 S1.lt.2.2
 have T2 := T1.below kb T1.lt.1 T1.lt.2.1 T1.lt.2.2
 have hb2 := hb.trans (kb.mono hb.size)
 have HP := Lib.hid (HPH.out w2 S2.grid T2.grid)
 clear q0 q1 q2 q3 q4 q5 q6 p0 p1 p2 p3 p4 p5 p6
 go_wp2_with fail
 refine HP.out.mono ?_
 rintro e w3 ⟨rfl, hG, hg⟩
 go_wp2
 go_ret
 exact ⟨rfl, S2.turned hG hg, grown_trans (grown_of_below hb2 _) hg⟩

theorem aMerge_any (a1 g1 cb1 cap1 a2 g2 cb2 cap2 : Nat) (c : Cfg) (l : Nat) (xs ys : List Int) (w : World) (S : ArrOk w a1 g1 cb1 cap1 c l xs) (T : ArrOk w a2 g2 cb2 cap2 c l ys) (R : c.Ok) (hx : Small xs) (hy : Small ys) :
  Calls Tryz.prog 209 #[.pointer (some ⟨a1, 0, none⟩), .pointer (some ⟨a2, 0, none⟩)] w fun e w' => e = .returned (.int .i64 0) ∧ ArrOk w' a1 g1 cb1 cap1 c l (zipI (· + ·) xs ys) ∧ w.grownBy w' (some cb1) := by
 have hn := S.len
 have hp := c.keys_pos l
 have hf := S.few
 have hw2 := R.w2
 have q0 : w.cell? ⟨a1, 0, none⟩ = some (.int .i64 c.b) := by simp [World.cell?, S.hd]
 have q1 : w.cell? ⟨a1, 1, none⟩ = some (.int .i64 c.r) := by simp [World.cell?, S.hd]
 have q2 : w.cell? ⟨a1, 2, none⟩ = some (.int .i64 c.wd) := by simp [World.cell?, S.hd]
 have q3 : w.cell? ⟨a1, 3, none⟩ = some (.int .i64 c.m) := by simp [World.cell?, S.hd]
 have q4 : w.cell? ⟨a1, 4, none⟩ = some (.int .u64 c.s) := by simp [World.cell?, S.hd]
 have q5 : w.cell? ⟨a1, 5, none⟩ = some (.int .i64 l) := by simp [World.cell?, S.hd]
 have q6 : w.cell? ⟨a1, 6, none⟩ = some (.pointer (some ⟨g1, 0, none⟩)) := by simp [World.cell?, S.hd]
 have HJ := Lib.hid (aJoin238_any a1 g1 cb1 cap1 a2 g2 cb2 cap2 c l xs ys w S T R (· + ·) (fun w G H => gplus_any g1 cb1 cap1 g2 cb2 cap2 1 (c.keys l) xs ys w G H (by omega) (by omega) hx hy))
 clear hn hx hy
 go_enter Tryz.func209, Tryz.ntmps209
 go_wp2_with fail
 refine HJ.out.mono ?_
 rintro e w3 ⟨rfl, hA, hg⟩
 have HA := Lib.hid hA
 clear hA
 go_wp2
 go_ret
 exact ⟨rfl, HA.out, hg⟩

theorem aSub_any (a1 g1 cb1 cap1 a2 g2 cb2 cap2 : Nat) (c : Cfg) (l : Nat) (xs ys : List Int) (w : World) (S : ArrOk w a1 g1 cb1 cap1 c l xs) (T : ArrOk w a2 g2 cb2 cap2 c l ys) (R : c.Ok) (hx : Small xs) (hy : Small ys) (hm : c.m ≠ 2) :
  Calls Tryz.prog 211 #[.pointer (some ⟨a1, 0, none⟩), .pointer (some ⟨a2, 0, none⟩)] w fun e w' => e = .returned (.int .i64 0) ∧ ArrOk w' a1 g1 cb1 cap1 c l (zipI (· - ·) xs ys) ∧ w.grownBy w' (some cb1) := by
 have hn := S.len
 have hp := c.keys_pos l
 have hf := S.few
 have hw2 := R.w2
 have q0 : w.cell? ⟨a1, 0, none⟩ = some (.int .i64 c.b) := by simp [World.cell?, S.hd]
 have q1 : w.cell? ⟨a1, 1, none⟩ = some (.int .i64 c.r) := by simp [World.cell?, S.hd]
 have q2 : w.cell? ⟨a1, 2, none⟩ = some (.int .i64 c.wd) := by simp [World.cell?, S.hd]
 have q3 : w.cell? ⟨a1, 3, none⟩ = some (.int .i64 c.m) := by simp [World.cell?, S.hd]
 have q4 : w.cell? ⟨a1, 4, none⟩ = some (.int .u64 c.s) := by simp [World.cell?, S.hd]
 have q5 : w.cell? ⟨a1, 5, none⟩ = some (.int .i64 l) := by simp [World.cell?, S.hd]
 have q6 : w.cell? ⟨a1, 6, none⟩ = some (.pointer (some ⟨g1, 0, none⟩)) := by simp [World.cell?, S.hd]
 have HJ := Lib.hid (aJoin240_any a1 g1 cb1 cap1 a2 g2 cb2 cap2 c l xs ys w S T R (· - ·) (fun w G H => gminus_any g1 cb1 cap1 g2 cb2 cap2 1 (c.keys l) xs ys w G H (by omega) (by omega) hx hy))
 have hm1 : ((c.m : Int) != 2) = true := by simp; omega
 have hm2 : decide ((c.m : Int) = 2) = false := by simp; omega
 have hm3 : ((c.m : Int) == 2) = false := by simp; omega
 clear hn hx hy
 go_enter Tryz.func211, Tryz.ntmps211
 go_wp2_with fail
 refine HJ.out.mono ?_
 rintro e w3 ⟨rfl, hA, hg⟩
 have HA := Lib.hid hA
 clear hA
 go_wp2
 go_ret
 exact ⟨rfl, HA.out, hg⟩

end Go.Proofs.YtbhppbeepmllaaaGreatDoor
