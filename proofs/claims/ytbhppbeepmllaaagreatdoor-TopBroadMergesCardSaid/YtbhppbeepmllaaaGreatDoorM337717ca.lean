import Derived.Test.YtbhppbeepmllaaaGreatDoorM377bba7d
set_option linter.unusedVariables false
set_option linter.unusedSimpArgs false
set_option maxRecDepth 100000
set_option maxHeartbeats 2000000
namespace Go.Proofs.YtbhppbeepmllaaaGreatDoor
open Go.RowKit

def setAt (cs : Nat → List Int) (l : Nat) (ys : List Int) : Nat → List Int := fun k => if k = l then ys else cs k
theorem StackOk.turn {w w' : World} {st lb lcap : Nat} {vs : Nat → Lv} {c : Cfg} {cs : Nat → List Int} (S : StackOk w st lb lcap vs c cs) (l : Nat) (hl : l ≤ c.b) (ys : List Int) (hL : LevelOk w' (vs l) c l ys) (hg : w.grownBy w' (some (vs l).cb)) :
  StackOk w' st lb lcap vs c (setAt cs l ys) := by
 obtain ⟨cur, hcur⟩ := (S.lv l hl).cbKind
 refine ⟨(hg.block _ S.lt.1 (by intro e; cases e; exact kind_ne S.hd hcur (by decide) rfl)).trans S.hd, S.row.kept hg (.inr (own_ne_kind S.row hcur (by decide))), ?_, S.sep⟩
 intro k hk
 unfold setAt
 by_cases e : k = l
 ·subst e; simpa using hL
 ·rw [if_neg e]
  have h := S.lv k hk
  refine h.upd (F := fun b => b = (vs l).cb) (Upd.of_grown hg rfl) ?_ (S.sep k hk l hl e)
  rintro b rfl _
  exact ⟨cur, hcur⟩

theorem lvLoad_arr (v : Lv) (c : Cfg) (l lg lc : Nat) (cells ys : List Int) (w : World) (R : c.Ok) (S : LevelOk w v c l cells) (he : c.keys l ≤ c.wd) (hl : ys.length = c.size l) (hy : w.ownsRow 0 2 1 (.slice (some ⟨lg, 0, none⟩) (c.size l) lc) (c.size l) (i64s ys)) (hne : lg ≠ v.cb) :
  Calls Tryz.prog 305 #[.pointer (some ⟨v.a, 0, none⟩), .slice (some ⟨lg, 0, none⟩) (c.size l) lc] w fun e w' => e = .returned (.bool true) ∧ LevelOk w' v c l ys ∧ w.grownBy w' (some v.cb) := by
 have hs : c.size l = c.keys l := by unfold Cfg.size; rw [if_pos he]
 rw [← hl] at hy ⊢
 refine (aLoad_any v.a v.g v.cb v.cap lg lc c l cells ys w (S.arr he) R (hl.trans hs) hy hne).mono ?_
 rintro e w' ⟨rfl, hA, hg⟩
 exact ⟨rfl, ⟨fun _ => hA, fun h => absurd he h⟩, hg⟩
theorem lvLoad_sk (v : Lv) (c : Cfg) (l lg lc : Nat) (cells ys : List Int) (w : World) (R : c.Ok) (S : LevelOk w v c l cells) (he : ¬ c.keys l ≤ c.wd) (hl : ys.length = c.size l) (hy : w.ownsRow 0 2 1 (.slice (some ⟨lg, 0, none⟩) (c.size l) lc) (c.size l) (i64s ys)) (hne : lg ≠ v.cb) :
  Calls Tryz.prog 313 #[.pointer (some ⟨v.a, 0, none⟩), .slice (some ⟨lg, 0, none⟩) (c.size l) lc] w fun e w' => e = .returned (.bool true) ∧ LevelOk w' v c l ys ∧ w.grownBy w' (some v.cb) := by
 have hs : c.size l = c.r * c.wd := by unfold Cfg.size; rw [if_neg he]
 rw [← hl] at hy ⊢
 refine (skLoad_any v.a v.g v.cb v.cap lg lc c l cells ys w (S.sk he) R (hl.trans hs) hy hne).mono ?_
 rintro e w' ⟨rfl, hA, hg⟩
 exact ⟨rfl, ⟨fun h => absurd h he, fun _ => hA⟩, hg⟩

theorem stLoad_any (st lb lcap lg lc : Nat) (vs : Nat → Lv) (c : Cfg) (cs : Nat → List Int) (w : World) (S : StackOk w st lb lcap vs c cs) (R : c.Ok) (l : Nat) (hl : l ≤ c.b) (ys : List Int) (hyl : ys.length = c.size l)
  (hy : w.ownsRow 0 2 1 (.slice (some ⟨lg, 0, none⟩) (c.size l) lc) (c.size l) (i64s ys)) (hne : lg ≠ (vs l).cb) :
  Calls Tryz.prog 62 #[.pointer (some ⟨st, 0, none⟩), .int .i64 l, .slice (some ⟨lg, 0, none⟩) (c.size l) lc] w fun e w' => e = .returned (.bool true) ∧ StackOk w' st lb lcap vs c (setAt cs l ys) ∧ w.grownBy w' (some (vs l).cb) := by
 have HL := Lib.hid (stLevel_any st lb lcap vs c cs _ S l hl R.b2)
 have L1 := S.lv l hl
 by_cases he : c.keys l ≤ c.wd
 ·have HP := Lib.hid (lvLoad_arr (vs l) c l lg lc (cs l) ys w R L1 he hyl hy hne)
  rw [c.lt_arr he] at HL
  clear he hyl hy hne
  go_enter Tryz.func62, Tryz.ntmps62
  go_wp2_with fail
  refine HL.out.mono ?_
  rintro e w1 ⟨rfl, rfl⟩
  go_wp2_with fail
  refine HP.out.mono ?_
  rintro e w1 ⟨rfl, hA, hg⟩
  have HN := Lib.hid (S.turn l hl ys hA hg)
  clear hA
  go_wp2_with fail
  go_ret
  exact ⟨rfl, HN.out, hg⟩
 ·have HP := Lib.hid (lvLoad_sk (vs l) c l lg lc (cs l) ys w R L1 he hyl hy hne)
  rw [c.lt_sk he] at HL
  clear he hyl hy hne
  go_enter Tryz.func62, Tryz.ntmps62
  go_wp2_with fail
  refine HL.out.mono ?_
  rintro e w1 ⟨rfl, rfl⟩
  go_wp2_with fail
  refine HP.out.mono ?_
  rintro e w1 ⟨rfl, hA, hg⟩
  have HN := Lib.hid (S.turn l hl ys hA hg)
  clear hA
  go_wp2_with fail
  go_ret
  exact ⟨rfl, HN.out, hg⟩

theorem keys_top (c : Cfg) (h : c.Ok) : c.keys c.b = 1 ∧ c.keys c.b ≤ c.wd := by
 have := h.w1
 unfold Cfg.keys; simp; exact this
theorem stTotal_any (st lb lcap : Nat) (vs : Nat → Lv) (c : Cfg) (cs : Nat → List Int) (w : World) (S : StackOk w st lb lcap vs c cs) (R : c.Ok) :
  Calls Tryz.prog 117 #[.pointer (some ⟨st, 0, none⟩)] w fun e w' => e = .returned (.int .i64 ((cs c.b).getD 0 0)) ∧ Below w.heap.size w w' := by
 have q0 : w.cell? ⟨st, 0, none⟩ = some (.int .i64 c.b) := by simp [World.cell?, S.hd]
 have q1 : w.cell? ⟨st, 1, none⟩ = some (.int .i64 c.r) := by simp [World.cell?, S.hd]
 have q2 : w.cell? ⟨st, 2, none⟩ = some (.int .i64 c.wd) := by simp [World.cell?, S.hd]
 have q3 : w.cell? ⟨st, 3, none⟩ = some (.int .i64 c.m) := by simp [World.cell?, S.hd]
 have q4 : w.cell? ⟨st, 4, none⟩ = some (.int .u64 c.s) := by simp [World.cell?, S.hd]
 have q5 : w.cell? ⟨st, 5, none⟩ = some (.slice (some ⟨lb, 0, none⟩) (c.b + 1) lcap) := by simp [World.cell?, S.hd]
 have hc := (S.row.cellAt c.b (by omega)).trans (lvRow_at c vs (c.b + 1) c.b (by omega))
 obtain ⟨hk1, hk2⟩ := keys_top c R
 rw [c.lt_arr hk2] at hc
 have hlt := S.lt
 have hbi : (c.b : Int) < (c.b : Int) + 1 := by omega
 have HP := Lib.hid fun (k : After w.heap.size w) => aPoint_any (vs c.b).a (vs c.b).g (vs c.b).cb (vs c.b).cap c c.b (cs c.b) k.w (((S.below k.h).lv c.b (Nat.le_refl _)).arr hk2) R 0 (by omega)
 clear hk1 hk2
 generalize (cs c.b).getD 0 0 = x at *
 go_enter Tryz.func117, Tryz.ntmps117
 go_wp2_with fail
 refine wp_region_mixA w.heap.size [0, 1, 2, 3, 4, 5, 6, 7, 8, 9, 10] [11, 12, 13, 14, 15, 16] (by kernel_rfl) (by kernel_rfl) rfl ?_
 simp only [opsAt, List.map_cons, List.map_nil, List.getElem?_toArray, List.getElem?_cons_zero, List.getElem?_cons_succ, Option.getD_some]
 have zq0 := fun k : After w.heap.size w => k.cell (hlt.1) q0
 have zq1 := fun k : After w.heap.size w => k.cell (hlt.1) q1
 have zq2 := fun k : After w.heap.size w => k.cell (hlt.1) q2
 have zq3 := fun k : After w.heap.size w => k.cell (hlt.1) q3
 have zq4 := fun k : After w.heap.size w => k.cell (hlt.1) q4
 have zq5 := fun k : After w.heap.size w => k.cell (hlt.1) q5
 have zhc := fun k : After w.heap.size w => k.cell (hlt.2) hc
 repeat (go_big_quiet_step (fail))
 refine wpQuiet_nil ?_
 intro kk
 unfold calmQ
 have kb := kk.h
 clear zq0 zq1 zq2 zq3 zq4 zq5 zhc
 obtain ⟨w2, hw1⟩ : ∃ w2, kk.w = w2 := ⟨_, rfl⟩
 rw [hw1] at kb
 rw [hw1]
 clear hw1
 go_wp2_with fail
 refine (HP.out ⟨_, kb⟩).mono ?_
 rintro e w3 ⟨rfl, rfl⟩
 go_wp2_with fail
 go_ret
 exact ⟨rfl, kb⟩
end Go.Proofs.YtbhppbeepmllaaaGreatDoor
