import Derived.Test.YtbhppbeepmllaaaGreatDoorMe3a97e8d
import Derived.Handy
set_option linter.unusedVariables false
set_option linter.unusedSimpArgs false
set_option maxRecDepth 100000
set_option maxHeartbeats 2000000
namespace Go.Proofs.YtbhppbeepmllaaaGreatDoor
open Go.RowKit

def raiseK (width : Nat) (cells cols : List Int) (n : Int) : Nat → List Int
 | 0 => cells
 | k + 1 => if (raiseK width cells cols n k).getD (cix width k (cols.getD k 0)) 0 < n then (raiseK width cells cols n k).set (cix width k (cols.getD k 0)) n else raiseK width cells cols n k
theorem raiseK_len (width : Nat) (cells cols : List Int) (n : Int) (k : Nat) : (raiseK width cells cols n k).length = cells.length := by
 induction k with
 | zero => rfl
 | succ k ih => unfold raiseK; split <;> simp [ih]

theorem GridOk.drewN {w : World} {g cb cap rows width : Nat} {cells : List Int} (h : GridOk w g cb cap rows width cells) (n : Nat) : GridOk (w.drewN n) g cb cap rows width cells := ⟨h.hd, h.row, h.sz⟩

theorem rise_any (g cb cap rows width k bg bn : Nat) (cells : List Int) (c n : Int) (w : World) (G : GridOk w g cb cap rows width cells) (hk : k < rows) (hc0 : 0 ≤ c) (hc1 : c < width) (h5 : rows ≤ 8) (h6 : width ≤ 128)
  (hbg : w.cell? ⟨bg, 0, none⟩ = some (.pointer (some ⟨g, 0, none⟩))) (hbn : w.cell? ⟨bn, 0, none⟩ = some (.int .i64 n)) :
  Calls Tryz.prog 325 #[.int .i64 k, .int .i64 c, .pointer (some ⟨bg, 0, none⟩), .pointer (some ⟨bn, 0, none⟩)] w fun e w' =>
   e = .returned (.tuple #[]) ∧ GridOk w' g cb cap rows width (if cells.getD (cix width k c) 0 < n then cells.set (cix width k c) n else cells) ∧ w.grownBy w' (some cb) := by
 have hix := cix_lt (rows := rows) hk hc0 hc1
 have ha := fun nq => (at_any g cb cap rows width cells k c (cells.getD (cix width k c) 0) (w.drewN nq) (G.drewN nq) (by omega) (by omega) hc0 hc1 h5 h6 (some_getD (by rw [G.sz]; exact hix)))
 have hp := fun nq => (put_any g cb cap rows width cells k c n (w.drewN nq) (G.drewN nq) (by omega) (by omega) hc0 hc1 h5 h6)
 have hcx : ((k : Int) * width + c).toNat = cix width k c := rfl
 rw [hcx] at hp
 have hset := fun nq => (G.drewN nq).set (cix width k c) n
 have hgw := fun nq => grown_trans (grown_of_below (below_drewN (Below.refl w.heap.size w) nq) (some cb)) (grown_set (w.drewN nq) cb (cix width k c) (.int .i64 n))
 have G0 := fun nq => G.drewN nq
 have hg0 := fun nq => grown_of_below (below_drewN (Below.refl w.heap.size w) nq) (some cb)
 have HA := Lib.hid ha; have HP := Lib.hid hp; have HS := Lib.hid hset; have HG := Lib.hid hgw; have H0 := Lib.hid G0; have HG0 := Lib.hid hg0
 clear ha hp hset hgw hcx hix G0 hg0 G
 generalize cells.set (cix width k c) n = ys at *
 generalize cells.getD (cix width k c) 0 = x at *
 generalize cix width k c = ix at *
 go_enter Tryz.func325, Tryz.ntmps325
 go_wp2_with fail
 go_quiet (first | (go_at_call 309; exact quiet_eq (HA.out _)))
 go_wp2_with (first | (refine (HP.out _).mono ?_; rintro e w' ⟨rfl, rfl⟩))
 ·go_end0
  exact ⟨rfl, HS.out nq, HG.out nq⟩
 ·go_end0
  exact ⟨rfl, H0.out nq, HG0.out nq⟩

theorem raise_any (g cb cap rows width cg cc : Nat) (cells cols : List Int) (d : Int) (w : World) (G : GridOk w g cb cap rows width cells) (C : ColsOk cols rows width)
  (hx : w.ownsRow 0 3 1 (.slice (some ⟨cg, 0, none⟩) cols.length cc) cols.length (i64s cols))
  (hd0 : 0 ≤ d) (hd1 : d ≤ 1152921504606846976) (hl0 : -1152921504606846976 ≤ kthI (readL width cells cols rows) 0) (hl1 : kthI (readL width cells cols rows) 0 ≤ 1152921504606846976) :
  Calls Tryz.prog 319 #[.pointer (some ⟨g, 0, none⟩), .slice (some ⟨cg, 0, none⟩) cols.length cc, .int .i64 d] w fun e w' =>
   e = .returned (.int .i64 0) ∧ GridOk w' g cb cap rows width (raiseK width cells cols (kthI (readL width cells cols rows) 0 + d) rows) ∧ w.grownBy w' (some cb) := by
 have hl := G.lt
 have hcg := ints_lt hx
 have HR := Lib.hid (least_any g cb cap rows width cg cc cells cols _ (G.below ((Below.refl _ _).alloc (Nat.le_refl _) (.cells #[.pointer (some ⟨g, 0, none⟩)] 298)) hl.1 hl.2) C (hx.alloc _))
 obtain ⟨c1, c2, c3, c4, c5⟩ := C
 have CC := Lib.hid c5
 clear c5
 rw [c1] at hx HR ⊢
 obtain ⟨m, hm⟩ : ∃ m, kthI (readL width cells cols rows) 0 = m := ⟨_, rfl⟩
 rw [hm] at HR hl0 hl1 ⊢
 clear hm
 go_enter Tryz.func319, Tryz.ntmps319
 go_wp2_with fail
 refine HR.out.mono ?_
 rintro e w1 ⟨rfl, hb⟩
 have HP := Lib.hid (wplus_any m d w1 hl0 hl1 (by omega) hd1)
 have hd2 : decide (d < 0) = false := by simp; omega
 go_wp2_with fail
 refine HP.out.mono ?_
 rintro e w2 ⟨rfl, hb2⟩
 go_wp2_with fail
 have hbw : Below w.heap.size w w2 := (below_alloc hb).trans (hb2.mono (below_alloc hb).size)
 have hsz2 : w.heap.size < w2.heap.size := by have h1 := hb.size; have h2 := hb2.size; simp at h1; omega
 have hb0 : w2.heap[w.heap.size]? = some (.cells #[.pointer (some ⟨g, 0, none⟩)] 298 (0, 0)) :=
  (hb2.block _ (by have h1 := hb.size; simp at h1; omega)).trans ((hb.block _ (by simp)).trans (heap_alloc_at _ rfl))
 go_loopw [36] (fun i wr => ∃ k : Nat, k ≤ rows ∧ i = .int .i64 k ∧ GridOk wr g cb cap rows width (raiseK width cells cols (m + d) k) ∧ w.grownBy wr (some cb) ∧ wr.heap[w.heap.size]? = some (.cells #[.pointer (some ⟨g, 0, none⟩)] 298 (0, 0)) ∧ wr.heap[w2.heap.size]? = some (.cells #[.int .i64 (m + d)] 2 (0, 0))) (fun i _ => rows - (intOf i).toNat)
 case atStart => exact ⟨0, by omega, rfl, G.below (hbw.alloc (by omega) _) hl.1 hl.2, grown_of_below (hbw.alloc (by omega) _) _, heap_alloc_under _ hb0, heap_alloc_at _ rfl⟩
 case round =>
  obtain ⟨k, hk, rfl, hG, hgw, h0, h2⟩ := hrel
  by_cases hlt : k < rows
  ·have hc := some_getD (l := cols) (k := k) (by omega)
   obtain ⟨d1, d2⟩ := CC.out k _ hc
   have hcc : wr.cell? ⟨cg, k, none⟩ = some (.int .i64 (cols.getD k 0)) := by
    rw [World.cell?_of_block (w := w) (hgw.block cg hcg (by intro e; cases e; exact own_kind_ne hx G.row (by decide) rfl)), hx.cellAt k (by omega)]
    exact i64s_at hc
   have HP2 := Lib.hid (rise_any g cb cap rows width k w.heap.size w2.heap.size (raiseK width cells cols (m + d) k) (cols.getD k 0) (m + d) wr hG hlt d1 d2 c3 c4 (by simp [World.cell?, h0]) (by simp [World.cell?, h2]))
   have hpk : (if (raiseK width cells cols (m + d) k).getD (cix width k (cols.getD k 0)) 0 < m + d then (raiseK width cells cols (m + d) k).set (cix width k (cols.getD k 0)) (m + d) else raiseK width cells cols (m + d) k) = raiseK width cells cols (m + d) (k + 1) := rfl
   rw [hpk] at HP2
   clear hc hpk
   generalize cols.getD k 0 = c at *
   go_wp2_with fail
   refine (HP2.out).mono ?_
   rintro e w3 ⟨rfl, hG3, hg3⟩
   have hl0 := lt_of_block h0
   have hl2 := lt_of_block h2
   have h0' := (hg3.block _ hl0 (by intro e; cases e; omega)).trans h0
   have h2' := (hg3.block _ hl2 (by intro e; cases e; omega)).trans h2
   have hgw3 := grown_trans hgw hg3
   have HG3 := Lib.hid hG3
   clear hG3
   go_wp2_with fail
   go_roundw
   case rel => exact ⟨k + 1, by omega, by go_num, HG3.out, hgw3, h0', h2'⟩
   case measure => simp [intOf]; omega
  ·obtain rfl : k = rows := by omega
   go_wp2
   go_ret
   exact ⟨rfl, hG, hgw⟩
end Go.Proofs.YtbhppbeepmllaaaGreatDoor

namespace Go.Proofs.YtbhppbeepmllaaaGreatDoor
open Go.RowKit

structure Cfg where
 b : Nat
 r : Nat
 wd : Nat
 m : Nat
 s : Nat

structure Cfg.Ok (c : Cfg) : Prop where
 b1 : 1 ≤ c.b
 b2 : c.b ≤ 59
 r1 : 1 ≤ c.r
 r2 : c.r ≤ 8
 w1 : 1 ≤ c.wd
 w2 : c.wd ≤ 128
 m1 : 1 ≤ c.m
 m2 : c.m ≤ 3
 s2 : c.s < 18446744073709551616

theorem Cfg.Ok.rc {c : Cfg} (h : c.Ok) : RC c.b c.r c.wd c.m c.s := by
 obtain ⟨h1, h2, h3, h4, h5, h6, h7, h8, h9⟩ := h
 exact ⟨by omega, by omega, by omega, by omega, by omega, by omega, by omega, by omega, by omega, by omega⟩

def Cfg.keys (c : Cfg) (l : Nat) : Nat := 2 ^ (c.b - l)
theorem keysV_nat (b l : Nat) : keysV b l = ((2 ^ (b - l) : Nat) : Int) := by
 unfold keysV
 rw [show ((b : Int) - (l : Int)).toNat = b - l by omega]
 simp
theorem Cfg.keys_le {c : Cfg} (h : c.Ok) (l : Nat) : c.keys l ≤ 576460752303423488 := by
 have := h.b2
 unfold Cfg.keys
 calc 2 ^ (c.b - l) ≤ 2 ^ 59 := Nat.pow_le_pow_right (by omega) (by omega)
  _ = _ := by decide

noncomputable def Cfg.cols (c : Cfg) (l key : Nat) : List Int := colsV c.r c.wd c.s l key
theorem Cfg.cols_len (c : Cfg) (l key : Nat) : (c.cols l key).length = c.r := by simp [Cfg.cols, colsV]
theorem Cfg.cols_at (c : Cfg) (l key k : Nat) (h : k < c.r) : (c.cols l key)[k]? = some (colV c.s l k key c.wd) := by simp [Cfg.cols, colsV, h]
theorem Cfg.cols_ok {c : Cfg} (h : c.Ok) (l key : Nat) (hl : l ≤ c.b) (hk : key < c.keys l) : ColsOk (c.cols l key) c.r c.wd := by
 have hkl := c.keys_le h l
 obtain ⟨h1, h2, h3, h4, h5, h6, h7, h8, h9⟩ := h
 refine ⟨c.cols_len l key, h3, h4, h6, ?_⟩
 intro k x hx
 have hlt : k < c.r := by have := (List.getElem?_eq_some_iff.1 hx).1; rwa [c.cols_len] at this
 rw [c.cols_at l key k hlt] at hx
 obtain rfl := Option.some.inj hx
 exact (col_spec c.s l k key c.wd (by omega) (by omega) (by omega) (by omega) (by omega) (by omega) (by omega) (by omega) (by omega) (by omega)).2

theorem cols_ok (c : Cfg) (l key : Nat) (w : World) (R : c.Ok) (hl : l ≤ c.b) (hk : key < c.keys l) :
  Calls Tryz.prog 21 #[.agg #[.int .i64 c.b, .int .i64 c.r, .int .i64 c.wd, .int .i64 c.m, .int .u64 c.s], .int .i64 l, .int .u64 key] w fun e w' =>
   (∃ g cc, e = .returned (.slice (some ⟨g, 0, none⟩) c.r cc) ∧ w'.ownsRow w.heap.size 3 1 (.slice (some ⟨g, 0, none⟩) c.r cc) c.r (i64s (c.cols l key))) ∧ Below w.heap.size w w' := by
 have hr := R.r1
 refine (cols_any c.b c.r c.wd c.m c.s l key w R.rc (by omega) (by omega) (by omega) (by rw [keysV_nat]; unfold Cfg.keys at hk; omega)).mono ?_
 rintro e w' ⟨⟨v, rfl, ho⟩, hb⟩
 rw [Int.toNat_natCast] at ho
 have ho' := ho
 obtain ⟨g, cc, hv⟩ := own_succ (k := c.r - 1) (by rw [Nat.sub_add_cancel hr]; exact ho)
 rw [Nat.sub_add_cancel hr] at hv
 subst hv
 exact ⟨⟨g, cc, rfl, ho'⟩, hb⟩

structure SketchOk (w : World) (sk g cb cap : Nat) (c : Cfg) (l : Nat) (cells : List Int) : Prop where
 hd : w.heap[sk]? = some (.cells #[.pointer (some ⟨g, 0, none⟩), .int .i64 c.b, .int .i64 c.r, .int .i64 c.wd, .int .i64 c.m, .int .u64 c.s, .int .i64 l] 305 (0, 0))
 grid : GridOk w g cb cap c.r c.wd cells

theorem SketchOk.ne {w : World} {sk g cb cap : Nat} {c : Cfg} {l : Nat} {cells : List Int} (S : SketchOk w sk g cb cap c l cells) : sk ≠ cb := by
 intro e
 subst e
 obtain ⟨cur, h2, _⟩ := own_block S.grid.row
 have := S.hd.symm.trans h2
 simp at this
theorem SketchOk.lt {w : World} {sk g cb cap : Nat} {c : Cfg} {l : Nat} {cells : List Int} (S : SketchOk w sk g cb cap c l cells) : sk < w.heap.size ∧ g < w.heap.size ∧ cb < w.heap.size := ⟨lt_of_block S.hd, S.grid.lt⟩
theorem SketchOk.below {w w' : World} {B sk g cb cap : Nat} {c : Cfg} {l : Nat} {cells : List Int} (S : SketchOk w sk g cb cap c l cells) (hb : Below B w w') (h1 : sk < B) (h2 : g < B) (h3 : cb < B) : SketchOk w' sk g cb cap c l cells :=
 ⟨(hb.block sk h1).trans S.hd, S.grid.below hb h2 h3⟩
theorem SketchOk.turned {w w' : World} {sk g cb cap : Nat} {c : Cfg} {l : Nat} {cells cells' : List Int} (S : SketchOk w sk g cb cap c l cells) (G : GridOk w' g cb cap c.r c.wd cells') (hg : w.grownBy w' (some cb)) : SketchOk w' sk g cb cap c l cells' :=
 ⟨(hg.block sk S.lt.1 (by intro e; cases e; exact S.ne rfl)).trans S.hd, G⟩

noncomputable def Cfg.told (c : Cfg) (l key : Nat) (cells : List Int) : Int := kthI (readL c.wd cells (c.cols l key) c.r) (if c.m = 3 then (c.r - 1) / 2 else 0)
noncomputable def Cfg.fed (c : Cfg) (l key : Nat) (d : Int) (cells : List Int) : List Int :=
 if c.m = 2 then raiseK c.wd cells (c.cols l key) (kthI (readL c.wd cells (c.cols l key) c.r) 0 + d) c.r
 else putK c.wd cells (c.cols l key) ((readL c.wd cells (c.cols l key) c.r).map (· + d)) c.r

theorem skPoint_any (sk g cb cap : Nat) (c : Cfg) (l key : Nat) (cells : List Int) (w : World) (S : SketchOk w sk g cb cap c l cells) (R : c.Ok) (hl : l ≤ c.b) (hk : key < c.keys l) :
  Calls Tryz.prog 314 #[.pointer (some ⟨sk, 0, none⟩), .int .u64 key] w fun e w' => e = .returned (.tuple #[.int .i64 (c.told l key cells), .int .i64 0]) ∧ Below w.heap.size w w' := by
 have q0 : w.cell? ⟨sk, 0, none⟩ = some (.pointer (some ⟨g, 0, none⟩)) := by simp [World.cell?, S.hd]
 have q1 : w.cell? ⟨sk, 1, none⟩ = some (.int .i64 c.b) := by simp [World.cell?, S.hd]
 have q2 : w.cell? ⟨sk, 2, none⟩ = some (.int .i64 c.r) := by simp [World.cell?, S.hd]
 have q3 : w.cell? ⟨sk, 3, none⟩ = some (.int .i64 c.wd) := by simp [World.cell?, S.hd]
 have q4 : w.cell? ⟨sk, 4, none⟩ = some (.int .i64 c.m) := by simp [World.cell?, S.hd]
 have q5 : w.cell? ⟨sk, 5, none⟩ = some (.int .u64 c.s) := by simp [World.cell?, S.hd]
 have q6 : w.cell? ⟨sk, 6, none⟩ = some (.int .i64 l) := by simp [World.cell?, S.hd]
 have hlt := S.lt
 have hC := c.cols_ok R l key hl hk
 have HC := Lib.hid fun w => cols_ok c l key w R hl hk
 have hr1 := R.r1
 have hcl := c.cols_len l key
 unfold Cfg.told
 obtain ⟨cols, hco⟩ : ∃ cols, c.cols l key = cols := ⟨_, rfl⟩
 rw [hco] at HC hC hcl ⊢
 have HCL := Lib.hid hcl
 clear hco hcl
 obtain ⟨ix, hix⟩ : ∃ ix, (if c.m = 3 then (c.r - 1) / 2 else 0) = ix := ⟨_, rfl⟩
 rw [hix]
 have HIX := Lib.hid hix
 clear hix
 go_enter Tryz.func314, Tryz.ntmps314
 go_wp2_with fail
 refine wp_region_mixA w.heap.size [0, 1, 2, 3, 4, 5, 6, 7, 8] [9, 10] (by kernel_rfl) (by kernel_rfl) rfl ?_
 simp only [opsAt, List.map_cons, List.map_nil, List.getElem?_toArray, List.getElem?_cons_zero, List.getElem?_cons_succ, Option.getD_some]
 have r0 := fun k : After w.heap.size w => k.cell S.lt.1 q0
 have r1 := fun k : After w.heap.size w => k.cell S.lt.1 q1
 have r2 := fun k : After w.heap.size w => k.cell S.lt.1 q2
 have r3 := fun k : After w.heap.size w => k.cell S.lt.1 q3
 have r4 := fun k : After w.heap.size w => k.cell S.lt.1 q4
 have r5 := fun k : After w.heap.size w => k.cell S.lt.1 q5
 have r6 := fun k : After w.heap.size w => k.cell S.lt.1 q6
 repeat (go_big_quiet_step (fail))
 refine wpQuiet_nil ?_
 intro kk
 unfold calmQ
 have kb := kk.h
 clear r0 r1 r2 r3 r4 r5 r6
 obtain ⟨w1, hw1⟩ : ∃ w1, kk.w = w1 := ⟨_, rfl⟩
 rw [hw1] at kb
 rw [hw1]
 clear hw1
 clear q0 q1 q2 q3 q4 q5 q6
 have S1 := S.below kb hlt.1 hlt.2.1 hlt.2.2
 go_wp2_with fail
 refine (HC.out _).mono ?_
 rintro e w2 ⟨⟨cg, cc, rfl, ho⟩, hb2⟩
 have kb2 := kb.trans (hb2.mono kb.size)
 have S2 := S.below kb2 hlt.1 hlt.2.1 hlt.2.2
 have ho2 := own_base ho (Nat.zero_le _)
 have heq : ∀ w, _ := fun w => Lib.run_eql_slice_nil (P := Tryz.prog) (w := w) 51 3 (some ⟨cg, 0, none⟩) c.r cc 0 0 Tryz.underlying51
 have q0 : w2.cell? ⟨sk, 0, none⟩ = some (.pointer (some ⟨g, 0, none⟩)) := by simp [World.cell?, S2.hd]
 have q1 : w2.cell? ⟨sk, 1, none⟩ = some (.int .i64 c.b) := by simp [World.cell?, S2.hd]
 have q2 : w2.cell? ⟨sk, 2, none⟩ = some (.int .i64 c.r) := by simp [World.cell?, S2.hd]
 have q3 : w2.cell? ⟨sk, 3, none⟩ = some (.int .i64 c.wd) := by simp [World.cell?, S2.hd]
 have q4 : w2.cell? ⟨sk, 4, none⟩ = some (.int .i64 c.m) := by simp [World.cell?, S2.hd]
 have q5 : w2.cell? ⟨sk, 5, none⟩ = some (.int .u64 c.s) := by simp [World.cell?, S2.hd]
 have q6 : w2.cell? ⟨sk, 6, none⟩ = some (.int .i64 l) := by simp [World.cell?, S2.hd]
 have hmid := middle_any g cb cap c.r c.wd cg cc cells cols w2 S2.grid hC (by rw [HCL.out]; exact ho2)
 have hlea := least_any g cb cap c.r c.wd cg cc cells cols w2 S2.grid hC (by rw [HCL.out]; exact ho2)
 rw [HCL.out] at hmid hlea
 have HM := Lib.hid hmid; have HL := Lib.hid hlea
 clear hmid hlea ho ho2 hC
 by_cases hm : c.m = 3
 ·rw [hm] at q4
  obtain rfl : ix = (c.r - 1) / 2 := by rw [← HIX.out, if_pos hm]
  go_wp2_with fail
  refine HM.out.mono ?_
  rintro e w3 ⟨rfl, hb3⟩
  go_wp2
  go_ret2
  exact ⟨rfl, kb2.trans (hb3.mono kb2.size)⟩
 ·have hm' : decide ((c.m : Int) = 3) = false := by simp; omega
  obtain rfl : ix = 0 := by rw [← HIX.out, if_neg hm]
  go_wp2_with fail
  refine HL.out.mono ?_
  rintro e w3 ⟨rfl, hb3⟩
  go_wp2
  go_ret2
  exact ⟨rfl, kb2.trans (hb3.mono kb2.size)⟩
end Go.Proofs.YtbhppbeepmllaaaGreatDoor

namespace Go.Proofs.YtbhppbeepmllaaaGreatDoor
open Go.RowKit

def Small (l : List Int) : Prop := ∀ x ∈ l, -1152921504606846976 ≤ x ∧ x ≤ 1152921504606846976
theorem Small.getD {l : List Int} (h : Small l) (k : Nat) : -1152921504606846976 ≤ l.getD k 0 ∧ l.getD k 0 ≤ 1152921504606846976 := by
 by_cases hc : k < l.length
 ·exact h _ (List.mem_of_getElem? (some_getD hc))
 ·rw [getD_past (by omega)]; omega
theorem Small.readL {cells : List Int} (h : Small cells) (wd : Nat) (cols : List Int) (k : Nat) : Small (readL wd cells cols k) := by
 intro x hx
 unfold Go.Proofs.YtbhppbeepmllaaaGreatDoor.readL at hx
 simp only [List.mem_map] at hx
 obtain ⟨row, _, rfl⟩ := hx
 exact h.getD _
theorem Small.kthI {l : List Int} (h : Small l) (k : Nat) : -1152921504606846976 ≤ kthI l k ∧ kthI l k ≤ 1152921504606846976 := by
 unfold Go.Proofs.YtbhppbeepmllaaaGreatDoor.kthI
 split
 ·rename_i hx
  exact h _ (kth_mem (Exists.choose_spec hx))
 ·omega

theorem skCheck_any (sk g cb cap : Nat) (c : Cfg) (l key : Nat) (d : Int) (cells : List Int)
  (w : World) (S : SketchOk w sk g cb cap c l cells) (R : c.Ok) (hl : l ≤ c.b) (hk : key < c.keys l)
  (hd0 : -1152921504606846976 ≤ d) (hd1 : d ≤ 1152921504606846976) (hm : c.m = 2 → 0 ≤ d) (hs : Small cells) :
  Calls Tryz.prog 312 #[.pointer (some ⟨sk, 0, none⟩), .int .u64 key, .int .i64 d] w fun e w' => e = .returned (.int .i64 0) ∧ Below w.heap.size w w' := by
 have q0 : w.cell? ⟨sk, 0, none⟩ = some (.pointer (some ⟨g, 0, none⟩)) := by simp [World.cell?, S.hd]
 have q1 : w.cell? ⟨sk, 1, none⟩ = some (.int .i64 c.b) := by simp [World.cell?, S.hd]
 have q2 : w.cell? ⟨sk, 2, none⟩ = some (.int .i64 c.r) := by simp [World.cell?, S.hd]
 have q3 : w.cell? ⟨sk, 3, none⟩ = some (.int .i64 c.wd) := by simp [World.cell?, S.hd]
 have q4 : w.cell? ⟨sk, 4, none⟩ = some (.int .i64 c.m) := by simp [World.cell?, S.hd]
 have q5 : w.cell? ⟨sk, 5, none⟩ = some (.int .u64 c.s) := by simp [World.cell?, S.hd]
 have q6 : w.cell? ⟨sk, 6, none⟩ = some (.int .i64 l) := by simp [World.cell?, S.hd]
 have hlt := S.lt
 have hC := c.cols_ok R l key hl hk
 have HC := Lib.hid fun w => cols_ok c l key w R hl hk
 have hr1 := R.r1
 have hr2 := R.r2
 have hcl := c.cols_len l key
 obtain ⟨cols, hco⟩ : ∃ cols, c.cols l key = cols := ⟨_, rfl⟩
 rw [hco] at HC hC hcl
 have HCL := Lib.hid hcl
 clear hco hcl
 go_enter Tryz.func312, Tryz.ntmps312
 go_wp2_with fail
 refine wp_region_mixA w.heap.size [0, 1, 2, 3, 4, 5, 6, 7, 8] [9, 10] (by kernel_rfl) (by kernel_rfl) rfl ?_
 simp only [opsAt, List.map_cons, List.map_nil, List.getElem?_toArray, List.getElem?_cons_zero, List.getElem?_cons_succ, Option.getD_some]
 have r0 := fun k : After w.heap.size w => k.cell S.lt.1 q0
 have r1 := fun k : After w.heap.size w => k.cell S.lt.1 q1
 have r2 := fun k : After w.heap.size w => k.cell S.lt.1 q2
 have r3 := fun k : After w.heap.size w => k.cell S.lt.1 q3
 have r4 := fun k : After w.heap.size w => k.cell S.lt.1 q4
 have r5 := fun k : After w.heap.size w => k.cell S.lt.1 q5
 have r6 := fun k : After w.heap.size w => k.cell S.lt.1 q6
 repeat (go_big_quiet_step (fail))
 refine wpQuiet_nil ?_
 intro kk
 unfold calmQ
 have kb := kk.h
 clear r0 r1 r2 r3 r4 r5 r6
 obtain ⟨w1, hw1⟩ : ∃ w1, kk.w = w1 := ⟨_, rfl⟩
 rw [hw1] at kb
 rw [hw1]
 clear hw1
 clear q0 q1 q2 q3 q4 q5 q6
 go_wp2_with fail
 refine (HC.out _).mono ?_
 rintro e w2 ⟨⟨cg, cc, rfl, ho⟩, hb2⟩
 have kb2 := kb.trans (hb2.mono kb.size)
 have S2 := S.below kb2 hlt.1 hlt.2.1 hlt.2.2
 have ho2 := own_base ho (Nat.zero_le _)
 have heq : ∀ w, _ := fun w => Lib.run_eql_slice_nil (P := Tryz.prog) (w := w) 51 3 (some ⟨cg, 0, none⟩) c.r cc 0 0 Tryz.underlying51
 have q0 : w2.cell? ⟨sk, 0, none⟩ = some (.pointer (some ⟨g, 0, none⟩)) := by simp [World.cell?, S2.hd]
 have q1 : w2.cell? ⟨sk, 1, none⟩ = some (.int .i64 c.b) := by simp [World.cell?, S2.hd]
 have q2 : w2.cell? ⟨sk, 2, none⟩ = some (.int .i64 c.r) := by simp [World.cell?, S2.hd]
 have q3 : w2.cell? ⟨sk, 3, none⟩ = some (.int .i64 c.wd) := by simp [World.cell?, S2.hd]
 have q4 : w2.cell? ⟨sk, 4, none⟩ = some (.int .i64 c.m) := by simp [World.cell?, S2.hd]
 have q5 : w2.cell? ⟨sk, 5, none⟩ = some (.int .u64 c.s) := by simp [World.cell?, S2.hd]
 have q6 : w2.cell? ⟨sk, 6, none⟩ = some (.int .i64 l) := by simp [World.cell?, S2.hd]
 have hread := read_any g cb cap c.r c.wd cg cc cells cols w2 S2.grid hC (by rw [HCL.out]; exact ho2)
 have hlea := fun w3 (hb3 : Below w2.heap.size w2 w3) => least_any g cb cap c.r c.wd cg cc cells cols w3 (S2.grid.below hb3 S2.lt.2.1 S2.lt.2.2) hC (by rw [HCL.out]; exact ho2.kept (grown_of_below hb3 none) (by simp [Value.ownBlock]))
 rw [HCL.out] at hread hlea
 have HR := Lib.hid hread; have HL := Lib.hid hlea
 have hsl := hs.readL c.wd cols c.r
 have hsk := hsl.kthI 0
 have hrl := readL_len c.wd cells cols c.r
 obtain ⟨rl, hrle⟩ : ∃ rl, readL c.wd cells cols c.r = rl := ⟨_, rfl⟩
 rw [hrle] at HR HL hsl hsk hrl
 have HSL := Lib.hid hsl; have HRL := Lib.hid hrl
 clear hread hlea ho ho2 hC hsl hrl hrle hs
 go_wp2_with fail
 refine HR.out.mono ?_
 rintro e w3 ⟨⟨g3, c3, rfl, ho3⟩, hb3⟩
 have kb3 := kb2.trans (hb3.mono kb2.size)
 have hlt2 := S2.lt
 replace q0 := (hb3.cell (p := ⟨sk, 0, none⟩) hlt2.1).trans q0
 replace q1 := (hb3.cell (p := ⟨sk, 1, none⟩) hlt2.1).trans q1
 replace q2 := (hb3.cell (p := ⟨sk, 2, none⟩) hlt2.1).trans q2
 replace q3 := (hb3.cell (p := ⟨sk, 3, none⟩) hlt2.1).trans q3
 replace q4 := (hb3.cell (p := ⟨sk, 4, none⟩) hlt2.1).trans q4
 replace q5 := (hb3.cell (p := ⟨sk, 5, none⟩) hlt2.1).trans q5
 replace q6 := (hb3.cell (p := ⟨sk, 6, none⟩) hlt2.1).trans q6
 by_cases hm2 : c.m = 2
 ·have hdd := hm hm2
  have hm' : decide ((c.m : Int) = 2) = true := by simp; omega
  have hd2 : decide (d < 0) = false := by simp; omega
  go_wp2_with fail
  refine (HL.out w3 hb3).mono ?_
  rintro e w4 ⟨rfl, hb4⟩
  have kb4 := kb3.trans (hb4.mono kb3.size)
  obtain ⟨least, hle⟩ : ∃ x, kthI rl 0 = x := ⟨_, rfl⟩
  rw [hle] at hsk ⊢
  go_wp2_with fail
  have hcl1 : (w4.alloc (.cells #[.int .i64 least] 34)).heap.size = w4.heap.size + 1 := by simp
  have kb5 : Below w.heap.size w (w4.alloc (.cells #[.int .i64 least] 2)) := kb4.alloc kb4.size _
  have HCE := Lib.hid fun (k : Nat) (hk : k < 1) (wr : World) (hB : Below (w4.alloc (.cells #[.int .i64 least] 2)).heap.size (w4.alloc (.cells #[.int .i64 least] 2)) wr) => (show wr.cell? ⟨w4.heap.size, k, none⟩ = some (.int .i64 ([least].getD k 0)) from by
   obtain rfl : k = 0 := by omega
   exact (hB.cell (p := ⟨w4.heap.size, 0, none⟩) (by simp)).trans (by go_simp))
  have HSM := Lib.hid fun (k : Nat) (hk : k < 1) => (show -1152921504606846976 ≤ [least].getD k 0 ∧ [least].getD k 0 ≤ 1152921504606846976 from by
   obtain rfl : k = 0 := by omega
   exact hsk)
  go_loopw [61] (fun i wr => ∃ k : Nat, k ≤ 1 ∧ i = .int .i64 k ∧ Below (w4.alloc (.cells #[.int .i64 least] 2)).heap.size (w4.alloc (.cells #[.int .i64 least] 2)) wr) (fun i _ => 1 - (intOf i).toNat)
  case atStart => exact ⟨0, by omega, rfl, Below.refl _ _⟩
  case round =>
   obtain ⟨k, hk, rfl, hB⟩ := hrel
   by_cases hlt : k < 1
   ·have hcell := HCE.out k hlt wr hB
    obtain ⟨y1, y2⟩ := HSM.out k hlt
    have HP := Lib.hid (wplus_any ([least].getD k 0) d wr y1 y2 hd0 hd1)
    generalize [least].getD k 0 = x at *
    go_wp2_with fail
    refine HP.out.mono ?_
    rintro e w9 ⟨rfl, hb9⟩
    go_wp2_with fail
    go_roundw
    case rel => exact ⟨k + 1, by omega, by go_num, hB.trans (hb9.mono hB.size)⟩
    case measure => simp [intOf]; omega
   ·obtain rfl : k = 1 := by omega
    go_wp2
    go_ret
    exact ⟨rfl, kb5.trans (hB.mono kb5.size)⟩
 ·have hm' : decide ((c.m : Int) = 2) = false := by simp; omega
  have hm'' : ((c.m : Int) == 2) = false := by simp; omega
  have HCE := Lib.hid fun (k : Nat) (hk : k < c.r) (wr : World) (hB : Below w3.heap.size w3 wr) => (hB.cell (p := ⟨g3, k, none⟩) (ints_lt ho3)).trans ((ho3.cellAt k (by omega)).trans (i64s_at (some_getD (l := rl) (k := k) (by rw [HRL.out]; exact hk))))
  have HSM := Lib.hid fun (k : Nat) (hk : k < c.r) => HSL.out.getD k
  go_wp2_with fail
  go_loopw [61] (fun i wr => ∃ k : Nat, k ≤ c.r ∧ i = .int .i64 k ∧ Below w3.heap.size w3 wr) (fun i _ => c.r - (intOf i).toNat)
  case atStart => exact ⟨0, by omega, rfl, Below.refl _ _⟩
  case round =>
   obtain ⟨k, hk, rfl, hB⟩ := hrel
   by_cases hlt : k < c.r
   ·have hcell := HCE.out k hlt wr hB
    obtain ⟨y1, y2⟩ := HSM.out k hlt
    have HP := Lib.hid (wplus_any (rl.getD k 0) d wr y1 y2 hd0 hd1)
    generalize rl.getD k 0 = x at *
    go_wp2_with fail
    refine HP.out.mono ?_
    rintro e w9 ⟨rfl, hb9⟩
    go_wp2_with fail
    go_roundw
    case rel => exact ⟨k + 1, by omega, by go_num, hB.trans (hb9.mono hB.size)⟩
    case measure => simp [intOf]; omega
   ·obtain rfl : k = c.r := by omega
    go_wp2
    go_ret
    exact ⟨rfl, kb3.trans (hB.mono kb3.size)⟩

theorem skCheck_no (sk g cb cap : Nat) (c : Cfg) (l key : Nat) (d : Int) (cells : List Int)
  (w : World) (S : SketchOk w sk g cb cap c l cells) (R : c.Ok) (hl : l ≤ c.b) (hk : key < c.keys l)
  (hd : d < 0) (hm2 : c.m = 2) :
  Calls Tryz.prog 312 #[.pointer (some ⟨sk, 0, none⟩), .int .u64 key, .int .i64 d] w fun e w' => e = .returned (.int .i64 3) ∧ Below w.heap.size w w' := by
 have q0 : w.cell? ⟨sk, 0, none⟩ = some (.pointer (some ⟨g, 0, none⟩)) := by simp [World.cell?, S.hd]
 have q1 : w.cell? ⟨sk, 1, none⟩ = some (.int .i64 c.b) := by simp [World.cell?, S.hd]
 have q2 : w.cell? ⟨sk, 2, none⟩ = some (.int .i64 c.r) := by simp [World.cell?, S.hd]
 have q3 : w.cell? ⟨sk, 3, none⟩ = some (.int .i64 c.wd) := by simp [World.cell?, S.hd]
 have q4 : w.cell? ⟨sk, 4, none⟩ = some (.int .i64 c.m) := by simp [World.cell?, S.hd]
 have q5 : w.cell? ⟨sk, 5, none⟩ = some (.int .u64 c.s) := by simp [World.cell?, S.hd]
 have q6 : w.cell? ⟨sk, 6, none⟩ = some (.int .i64 l) := by simp [World.cell?, S.hd]
 have HM2 := Lib.hid hm2
 clear hm2
 have hlt := S.lt
 have hC := c.cols_ok R l key hl hk
 have HC := Lib.hid fun w => cols_ok c l key w R hl hk
 have hr1 := R.r1
 have hr2 := R.r2
 have hcl := c.cols_len l key
 obtain ⟨cols, hco⟩ : ∃ cols, c.cols l key = cols := ⟨_, rfl⟩
 rw [hco] at HC hC hcl
 have HCL := Lib.hid hcl
 clear hco hcl
 go_enter Tryz.func312, Tryz.ntmps312
 go_wp2_with fail
 refine wp_region_mixA w.heap.size [0, 1, 2, 3, 4, 5, 6, 7, 8] [9, 10] (by kernel_rfl) (by kernel_rfl) rfl ?_
 simp only [opsAt, List.map_cons, List.map_nil, List.getElem?_toArray, List.getElem?_cons_zero, List.getElem?_cons_succ, Option.getD_some]
 have r0 := fun k : After w.heap.size w => k.cell S.lt.1 q0
 have r1 := fun k : After w.heap.size w => k.cell S.lt.1 q1
 have r2 := fun k : After w.heap.size w => k.cell S.lt.1 q2
 have r3 := fun k : After w.heap.size w => k.cell S.lt.1 q3
 have r4 := fun k : After w.heap.size w => k.cell S.lt.1 q4
 have r5 := fun k : After w.heap.size w => k.cell S.lt.1 q5
 have r6 := fun k : After w.heap.size w => k.cell S.lt.1 q6
 repeat (go_big_quiet_step (fail))
 refine wpQuiet_nil ?_
 intro kk
 unfold calmQ
 have kb := kk.h
 clear r0 r1 r2 r3 r4 r5 r6
 obtain ⟨w1, hw1⟩ : ∃ w1, kk.w = w1 := ⟨_, rfl⟩
 rw [hw1] at kb
 rw [hw1]
 clear hw1
 clear q0 q1 q2 q3 q4 q5 q6
 go_wp2_with fail
 refine (HC.out _).mono ?_
 rintro e w2 ⟨⟨cg, cc, rfl, ho⟩, hb2⟩
 have kb2 := kb.trans (hb2.mono kb.size)
 have S2 := S.below kb2 hlt.1 hlt.2.1 hlt.2.2
 have ho2 := own_base ho (Nat.zero_le _)
 have heq : ∀ w, _ := fun w => Lib.run_eql_slice_nil (P := Tryz.prog) (w := w) 51 3 (some ⟨cg, 0, none⟩) c.r cc 0 0 Tryz.underlying51
 have q0 : w2.cell? ⟨sk, 0, none⟩ = some (.pointer (some ⟨g, 0, none⟩)) := by simp [World.cell?, S2.hd]
 have q1 : w2.cell? ⟨sk, 1, none⟩ = some (.int .i64 c.b) := by simp [World.cell?, S2.hd]
 have q2 : w2.cell? ⟨sk, 2, none⟩ = some (.int .i64 c.r) := by simp [World.cell?, S2.hd]
 have q3 : w2.cell? ⟨sk, 3, none⟩ = some (.int .i64 c.wd) := by simp [World.cell?, S2.hd]
 have q4 : w2.cell? ⟨sk, 4, none⟩ = some (.int .i64 c.m) := by simp [World.cell?, S2.hd]
 have q5 : w2.cell? ⟨sk, 5, none⟩ = some (.int .u64 c.s) := by simp [World.cell?, S2.hd]
 have q6 : w2.cell? ⟨sk, 6, none⟩ = some (.int .i64 l) := by simp [World.cell?, S2.hd]
 have hread := read_any g cb cap c.r c.wd cg cc cells cols w2 S2.grid hC (by rw [HCL.out]; exact ho2)
 rw [HCL.out] at hread
 have HR := Lib.hid hread
 clear hread ho ho2 hC
 go_wp2_with fail
 refine HR.out.mono ?_
 rintro e w3 ⟨⟨g3, c3, rfl, ho3⟩, hb3⟩
 have kb3 := kb2.trans (hb3.mono kb2.size)
 have hlt2 := S2.lt
 replace q0 := (hb3.cell (p := ⟨sk, 0, none⟩) hlt2.1).trans q0
 replace q1 := (hb3.cell (p := ⟨sk, 1, none⟩) hlt2.1).trans q1
 replace q2 := (hb3.cell (p := ⟨sk, 2, none⟩) hlt2.1).trans q2
 replace q3 := (hb3.cell (p := ⟨sk, 3, none⟩) hlt2.1).trans q3
 replace q4 := (hb3.cell (p := ⟨sk, 4, none⟩) hlt2.1).trans q4
 replace q5 := (hb3.cell (p := ⟨sk, 5, none⟩) hlt2.1).trans q5
 replace q6 := (hb3.cell (p := ⟨sk, 6, none⟩) hlt2.1).trans q6
 have hm2 := HM2.out
 have hm' : decide ((c.m : Int) = 2) = true := by simp; omega
 have hd2 : decide (d < 0) = true := by simp; omega
 go_wp2_with fail
 go_ret
 exact ⟨rfl, kb3⟩

theorem skUpdate_any (sk g cb cap : Nat) (c : Cfg) (l key : Nat) (d : Int) (cells : List Int)
  (w : World) (S : SketchOk w sk g cb cap c l cells) (R : c.Ok) (hl : l ≤ c.b) (hk : key < c.keys l)
  (hd0 : -1152921504606846976 ≤ d) (hd1 : d ≤ 1152921504606846976) (hm : c.m = 2 → 0 ≤ d) (hs : Small cells) :
  Calls Tryz.prog 315 #[.pointer (some ⟨sk, 0, none⟩), .int .u64 key, .int .i64 d] w fun e w' => e = .returned (.int .i64 0) ∧ SketchOk w' sk g cb cap c l (c.fed l key d cells) ∧ w.grownBy w' (some cb) := by
 have HK := Lib.hid (skCheck_any sk g cb cap c l key d cells w S R hl hk hd0 hd1 hm hs)
 have hlt := S.lt
 have hC := c.cols_ok R l key hl hk
 have HC := Lib.hid fun w => cols_ok c l key w R hl hk
 have hr1 := R.r1
 have hr2 := R.r2
 have hcl := c.cols_len l key
 unfold Cfg.fed
 obtain ⟨cols, hco⟩ : ∃ cols, c.cols l key = cols := ⟨_, rfl⟩
 rw [hco] at HC hC hcl ⊢
 have HCL := Lib.hid hcl
 clear hco hcl
 obtain ⟨nc, hnc⟩ : ∃ nc, (if c.m = 2 then raiseK c.wd cells cols (kthI (readL c.wd cells cols c.r) 0 + d) c.r else putK c.wd cells cols ((readL c.wd cells cols c.r).map (· + d)) c.r) = nc := ⟨_, rfl⟩
 rw [hnc]
 have HNC := Lib.hid hnc
 clear hnc
 go_enter Tryz.func315, Tryz.ntmps315
 go_wp2_with fail
 refine HK.out.mono ?_
 rintro e w0 ⟨rfl, hb0⟩
 have S0 := S.below hb0 hlt.1 hlt.2.1 hlt.2.2
 have q0 : w0.cell? ⟨sk, 0, none⟩ = some (.pointer (some ⟨g, 0, none⟩)) := by simp [World.cell?, S0.hd]
 have q1 : w0.cell? ⟨sk, 1, none⟩ = some (.int .i64 c.b) := by simp [World.cell?, S0.hd]
 have q2 : w0.cell? ⟨sk, 2, none⟩ = some (.int .i64 c.r) := by simp [World.cell?, S0.hd]
 have q3 : w0.cell? ⟨sk, 3, none⟩ = some (.int .i64 c.wd) := by simp [World.cell?, S0.hd]
 have q4 : w0.cell? ⟨sk, 4, none⟩ = some (.int .i64 c.m) := by simp [World.cell?, S0.hd]
 have q5 : w0.cell? ⟨sk, 5, none⟩ = some (.int .u64 c.s) := by simp [World.cell?, S0.hd]
 have q6 : w0.cell? ⟨sk, 6, none⟩ = some (.int .i64 l) := by simp [World.cell?, S0.hd]
 go_wp2_with fail
 refine wp_region_mixA w0.heap.size [0, 1, 2, 3, 4, 5, 6, 7, 8] [9, 10] (by kernel_rfl) (by kernel_rfl) rfl ?_
 simp only [opsAt, List.map_cons, List.map_nil, List.getElem?_toArray, List.getElem?_cons_zero, List.getElem?_cons_succ, Option.getD_some]
 have r0 := fun k : After w0.heap.size w0 => k.cell S0.lt.1 q0
 have r1 := fun k : After w0.heap.size w0 => k.cell S0.lt.1 q1
 have r2 := fun k : After w0.heap.size w0 => k.cell S0.lt.1 q2
 have r3 := fun k : After w0.heap.size w0 => k.cell S0.lt.1 q3
 have r4 := fun k : After w0.heap.size w0 => k.cell S0.lt.1 q4
 have r5 := fun k : After w0.heap.size w0 => k.cell S0.lt.1 q5
 have r6 := fun k : After w0.heap.size w0 => k.cell S0.lt.1 q6
 repeat (go_big_quiet_step (fail))
 refine wpQuiet_nil ?_
 intro kk
 unfold calmQ
 have kb := kk.h
 clear r0 r1 r2 r3 r4 r5 r6
 obtain ⟨w1, hw1⟩ : ∃ w1, kk.w = w1 := ⟨_, rfl⟩
 rw [hw1] at kb
 rw [hw1]
 clear hw1
 clear q0 q1 q2 q3 q4 q5 q6
 go_wp2_with fail
 refine (HC.out _).mono ?_
 rintro e w2 ⟨⟨cg, cc, rfl, ho⟩, hb2⟩
 have kb2 := kb.trans (hb2.mono kb.size)
 have S2 := S0.below kb2 S0.lt.1 S0.lt.2.1 S0.lt.2.2
 have kb3 := hb0.trans (kb2.mono hb0.size)
 have ho2 := own_base ho (Nat.zero_le _)
 have q0 : w2.cell? ⟨sk, 0, none⟩ = some (.pointer (some ⟨g, 0, none⟩)) := by simp [World.cell?, S2.hd]
 have q1 : w2.cell? ⟨sk, 1, none⟩ = some (.int .i64 c.b) := by simp [World.cell?, S2.hd]
 have q2 : w2.cell? ⟨sk, 2, none⟩ = some (.int .i64 c.r) := by simp [World.cell?, S2.hd]
 have q3 : w2.cell? ⟨sk, 3, none⟩ = some (.int .i64 c.wd) := by simp [World.cell?, S2.hd]
 have q4 : w2.cell? ⟨sk, 4, none⟩ = some (.int .i64 c.m) := by simp [World.cell?, S2.hd]
 have q5 : w2.cell? ⟨sk, 5, none⟩ = some (.int .u64 c.s) := by simp [World.cell?, S2.hd]
 have q6 : w2.cell? ⟨sk, 6, none⟩ = some (.int .i64 l) := by simp [World.cell?, S2.hd]
 have hsk := (hs.readL c.wd cols c.r).kthI 0
 by_cases hm2 : c.m = 2
 ·have hdd := hm hm2
  have hnc : raiseK c.wd cells cols (kthI (readL c.wd cells cols c.r) 0 + d) c.r = nc := by rw [← HNC.out, if_pos hm2]
  have hra := raise_any g cb cap c.r c.wd cg cc cells cols d w2 S2.grid hC (by rw [HCL.out]; exact ho2) hdd hd1 hsk.1 hsk.2
  rw [HCL.out, hnc] at hra
  have HRA := Lib.hid hra
  have hm'' : ((c.m : Int) == 2) = true := by simp; omega
  clear hra ho ho2 hC hsk hm hs hnc
  go_wp2_with fail
  refine HRA.out.mono ?_
  rintro e w3 ⟨rfl, hG, hg⟩
  go_wp2_with fail
  go_ret
  exact ⟨rfl, S2.turned hG hg, grown_trans (grown_of_below kb3 _) hg⟩
 ·have hnc : putK c.wd cells cols ((readL c.wd cells cols c.r).map (· + d)) c.r = nc := by rw [← HNC.out, if_neg hm2]
  have hra := change_any g cb cap c.r c.wd cg cc cells cols d w2 S2.grid hC (by rw [HCL.out]; exact ho2) hd0 hd1 hs
  rw [HCL.out, hnc] at hra
  have HRA := Lib.hid hra
  have hm'' : ((c.m : Int) == 2) = false := by simp; omega
  clear hra ho ho2 hC hsk hm hs hnc
  go_wp2_with fail
  refine HRA.out.mono ?_
  rintro e w3 ⟨rfl, hG, hg⟩
  go_wp2_with fail
  go_ret
  exact ⟨rfl, S2.turned hG hg, grown_trans (grown_of_below kb3 _) hg⟩

end Go.Proofs.YtbhppbeepmllaaaGreatDoor

namespace Go.Proofs.YtbhppbeepmllaaaGreatDoor
open Go.RowKit

theorem skConfig_any (sk g cb cap : Nat) (c : Cfg) (l : Nat) (cells : List Int) (w : World) (S : SketchOk w sk g cb cap c l cells) :
  Calls Tryz.prog 231 #[.pointer (some ⟨sk, 0, none⟩)] w fun e w' => e = .returned (.agg #[.int .i64 c.b, .int .i64 c.r, .int .i64 c.wd, .int .i64 c.m, .int .u64 c.s]) ∧ Below w.heap.size w w' := by
 have q0 : w.cell? ⟨sk, 0, none⟩ = some (.pointer (some ⟨g, 0, none⟩)) := by simp [World.cell?, S.hd]
 have q1 : w.cell? ⟨sk, 1, none⟩ = some (.int .i64 c.b) := by simp [World.cell?, S.hd]
 have q2 : w.cell? ⟨sk, 2, none⟩ = some (.int .i64 c.r) := by simp [World.cell?, S.hd]
 have q3 : w.cell? ⟨sk, 3, none⟩ = some (.int .i64 c.wd) := by simp [World.cell?, S.hd]
 have q4 : w.cell? ⟨sk, 4, none⟩ = some (.int .i64 c.m) := by simp [World.cell?, S.hd]
 have q5 : w.cell? ⟨sk, 5, none⟩ = some (.int .u64 c.s) := by simp [World.cell?, S.hd]
 have q6 : w.cell? ⟨sk, 6, none⟩ = some (.int .i64 l) := by simp [World.cell?, S.hd]
 have hlt := S.lt.1
 go_enter Tryz.func231, Tryz.ntmps231
 go_wp2
 exact bodyPost_ret (v := .agg #[.int .i64 c.b, .int .i64 c.r, .int .i64 c.wd, .int .i64 c.m, .int .u64 c.s]) (by simp [results, Tryz.results231, go_sem]) rfl ⟨rfl, by
  repeat' (first | exact Below.refl _ _ | refine Below.alloc ?_ (by first | exact Nat.le_refl _ | (simp; omega)) _ | refine Below.setCell ?_ (Nat.le_refl _) _)⟩

theorem skLevel_any (sk g cb cap : Nat) (c : Cfg) (l : Nat) (cells : List Int) (w : World) (S : SketchOk w sk g cb cap c l cells) :
  Calls Tryz.prog 232 #[.pointer (some ⟨sk, 0, none⟩)] w fun e w' => e = .returned (.int .i64 l) ∧ w = w' := by
 have q0 : w.cell? ⟨sk, 0, none⟩ = some (.pointer (some ⟨g, 0, none⟩)) := by simp [World.cell?, S.hd]
 have q1 : w.cell? ⟨sk, 1, none⟩ = some (.int .i64 c.b) := by simp [World.cell?, S.hd]
 have q2 : w.cell? ⟨sk, 2, none⟩ = some (.int .i64 c.r) := by simp [World.cell?, S.hd]
 have q3 : w.cell? ⟨sk, 3, none⟩ = some (.int .i64 c.wd) := by simp [World.cell?, S.hd]
 have q4 : w.cell? ⟨sk, 4, none⟩ = some (.int .i64 c.m) := by simp [World.cell?, S.hd]
 have q5 : w.cell? ⟨sk, 5, none⟩ = some (.int .u64 c.s) := by simp [World.cell?, S.hd]
 have q6 : w.cell? ⟨sk, 6, none⟩ = some (.int .i64 l) := by simp [World.cell?, S.hd]
 go_enter Tryz.func232, Tryz.ntmps232
 go_wp2
 go_ret
 exact ⟨rfl, rfl⟩

theorem skCells_any (sk g cb cap : Nat) (c : Cfg) (l : Nat) (cells : List Int) (w : World) (S : SketchOk w sk g cb cap c l cells) (hn : 0 < cells.length) (hn2 : cells.length ≤ 1000000) :
  Calls Tryz.prog 233 #[.pointer (some ⟨sk, 0, none⟩)] w fun e w' => (∃ gg c, e = .returned (.slice (some ⟨gg, 0, none⟩) cells.length c) ∧ w'.ownsRow w.heap.size 2 1 (.slice (some ⟨gg, 0, none⟩) cells.length c) cells.length (i64s cells)) ∧ Below w.heap.size w w' := by
 have HC := Lib.hid (cells_any g cb cap c.r c.wd cells w S.grid hn hn2)
 have q0 : w.cell? ⟨sk, 0, none⟩ = some (.pointer (some ⟨g, 0, none⟩)) := by simp [World.cell?, S.hd]
 have q1 : w.cell? ⟨sk, 1, none⟩ = some (.int .i64 c.b) := by simp [World.cell?, S.hd]
 have q2 : w.cell? ⟨sk, 2, none⟩ = some (.int .i64 c.r) := by simp [World.cell?, S.hd]
 have q3 : w.cell? ⟨sk, 3, none⟩ = some (.int .i64 c.wd) := by simp [World.cell?, S.hd]
 have q4 : w.cell? ⟨sk, 4, none⟩ = some (.int .i64 c.m) := by simp [World.cell?, S.hd]
 have q5 : w.cell? ⟨sk, 5, none⟩ = some (.int .u64 c.s) := by simp [World.cell?, S.hd]
 have q6 : w.cell? ⟨sk, 6, none⟩ = some (.int .i64 l) := by simp [World.cell?, S.hd]
 go_enter Tryz.func233, Tryz.ntmps233
 go_wp2_with fail
 refine HC.out.mono ?_
 rintro e w1 ⟨⟨gg, cc, rfl, ho⟩, hb⟩
 go_wp2
 go_ret
 exact ⟨⟨_, _, rfl, ho⟩, hb⟩

structure NewSketch (B : Nat) (w' : World) (sk g cb cap : Nat) (c : Cfg) (l : Nat) (cells : List Int) : Prop where
 ok : SketchOk w' sk g cb cap c l cells
 s1 : B ≤ sk
 g1 : B ≤ g
 c1 : B ≤ cb

theorem skCopy_any (sk g cb cap : Nat) (c : Cfg) (l : Nat) (cells : List Int) (w : World) (S : SketchOk w sk g cb cap c l cells) (hn : 0 < cells.length) (hn2 : cells.length ≤ 1000000) :
  Calls Tryz.prog 220 #[.pointer (some ⟨sk, 0, none⟩)] w fun e w' => (∃ sk' g' cb' cap', e = .returned (.pointer (some ⟨sk', 0, none⟩)) ∧ NewSketch w.heap.size w' sk' g' cb' cap' c l cells) ∧ Below w.heap.size w w' := by
 have HC := Lib.hid (gcopy_any g cb cap c.r c.wd cells w.drew (S.grid.drewN 1) hn hn2)
 have q0 : w.cell? ⟨sk, 0, none⟩ = some (.pointer (some ⟨g, 0, none⟩)) := by simp [World.cell?, S.hd]
 have q1 : w.cell? ⟨sk, 1, none⟩ = some (.int .i64 c.b) := by simp [World.cell?, S.hd]
 have q2 : w.cell? ⟨sk, 2, none⟩ = some (.int .i64 c.r) := by simp [World.cell?, S.hd]
 have q3 : w.cell? ⟨sk, 3, none⟩ = some (.int .i64 c.wd) := by simp [World.cell?, S.hd]
 have q4 : w.cell? ⟨sk, 4, none⟩ = some (.int .i64 c.m) := by simp [World.cell?, S.hd]
 have q5 : w.cell? ⟨sk, 5, none⟩ = some (.int .u64 c.s) := by simp [World.cell?, S.hd]
 have q6 : w.cell? ⟨sk, 6, none⟩ = some (.int .i64 l) := by simp [World.cell?, S.hd]
 have hlt := S.lt.1
 go_enter Tryz.func220, Tryz.ntmps220
 go_wp2_with fail
 go_region_held3 (fun w' => w'.cell? ⟨sk, 0, none⟩ = some (.pointer (some ⟨g, 0, none⟩)) ∧ w'.cell? ⟨sk, 1, none⟩ = some (.int .i64 c.b) ∧ w'.cell? ⟨sk, 2, none⟩ = some (.int .i64 c.r) ∧ w'.cell? ⟨sk, 3, none⟩ = some (.int .i64 c.wd) ∧ w'.cell? ⟨sk, 4, none⟩ = some (.int .i64 c.m) ∧ w'.cell? ⟨sk, 5, none⟩ = some (.int .u64 c.s) ∧ w'.cell? ⟨sk, 6, none⟩ = some (.int .i64 l))
  (first | go_keep | exact ⟨(hb.cell (p := ⟨sk, 0, none⟩) hlt).trans q0, (hb.cell (p := ⟨sk, 1, none⟩) hlt).trans q1, (hb.cell (p := ⟨sk, 2, none⟩) hlt).trans q2, (hb.cell (p := ⟨sk, 3, none⟩) hlt).trans q3, (hb.cell (p := ⟨sk, 4, none⟩) hlt).trans q4, (hb.cell (p := ⟨sk, 5, none⟩) hlt).trans q5, (hb.cell (p := ⟨sk, 6, none⟩) hlt).trans q6⟩)
  (first | (go_at_call 247; refine HC.out.mono ?_; rintro e w1 ⟨⟨g', cb', cap', rfl, hN⟩, hb⟩))
 go_wp2
 go_ret
 have hl := hN.ok.lt
 have hbs : w.heap.size ≤ w1.heap.size := hb.size
 have hb' : Below w.heap.size w w1 := below_drew_left hb
 exact ⟨⟨w1.heap.size, g', cb', cap', rfl, ⟨⟨heap_alloc_new _ _, hN.ok.keep (heap_alloc_old _ _ hl.1) (heap_alloc_old _ _ hl.2)⟩, hbs, hN.g1, hN.c1⟩⟩, hb'.alloc hbs _⟩

theorem skNew_any (c : Cfg) (l : Nat) (w : World) (R : c.Ok) (hl : l ≤ c.b) :
  Calls Tryz.prog 136 #[.agg #[.int .i64 c.b, .int .i64 c.r, .int .i64 c.wd, .int .i64 c.m, .int .u64 c.s], .int .i64 l] w fun e w' => (∃ sk' g' cb' cap', e = .returned (.tuple #[.pointer (some ⟨sk', 0, none⟩), .int .i64 0]) ∧ NewSketch w.heap.size w' sk' g' cb' cap' c l (List.replicate (c.r * c.wd) 0)) ∧ Below w.heap.size w w' := by
 have HK := Lib.hid fun w => keys_any c.b c.r c.wd c.m c.s l w R.rc (by omega) (by omega)
 have HG := Lib.hid fun w => gnew_any c.r c.wd w R.r1 R.r2 R.w1 R.w2
 have hkp := keysV_pos c.b l
 generalize keysV c.b l = kv at *
 have hk0 : decide (kv = 0) = false := by simp; omega
 go_enter Tryz.func136, Tryz.ntmps136
 go_wp2_with fail
 refine (HK.out _).mono ?_
 rintro e w1 ⟨rfl, hb1⟩
 have kb := below_alloc hb1
 have hlt : w.heap.size < w1.heap.size := by have := hb1.size; simp at this; omega
 have q0 : w1.cell? ⟨w.heap.size, 0, none⟩ = some (.int .i64 c.b) := (hb1.cell (p := ⟨w.heap.size, 0, none⟩) (by simp)).trans (by go_simp)
 have q1 : w1.cell? ⟨w.heap.size, 1, none⟩ = some (.int .i64 c.r) := (hb1.cell (p := ⟨w.heap.size, 1, none⟩) (by simp)).trans (by go_simp)
 have q2 : w1.cell? ⟨w.heap.size, 2, none⟩ = some (.int .i64 c.wd) := (hb1.cell (p := ⟨w.heap.size, 2, none⟩) (by simp)).trans (by go_simp)
 have q3 : w1.cell? ⟨w.heap.size, 3, none⟩ = some (.int .i64 c.m) := (hb1.cell (p := ⟨w.heap.size, 3, none⟩) (by simp)).trans (by go_simp)
 have q4 : w1.cell? ⟨w.heap.size, 4, none⟩ = some (.int .u64 c.s) := (hb1.cell (p := ⟨w.heap.size, 4, none⟩) (by simp)).trans (by go_simp)
 go_wp2_with fail
 go_region_held3 (fun w' => w'.cell? ⟨w.heap.size, 0, none⟩ = some (.int .i64 c.b) ∧ w'.cell? ⟨w.heap.size, 1, none⟩ = some (.int .i64 c.r) ∧ w'.cell? ⟨w.heap.size, 2, none⟩ = some (.int .i64 c.wd) ∧ w'.cell? ⟨w.heap.size, 3, none⟩ = some (.int .i64 c.m) ∧ w'.cell? ⟨w.heap.size, 4, none⟩ = some (.int .u64 c.s))
  (first | go_keep | exact ⟨(hb.cell (p := ⟨w.heap.size, 0, none⟩) hlt).trans q0, (hb.cell (p := ⟨w.heap.size, 1, none⟩) hlt).trans q1, (hb.cell (p := ⟨w.heap.size, 2, none⟩) hlt).trans q2, (hb.cell (p := ⟨w.heap.size, 3, none⟩) hlt).trans q3, (hb.cell (p := ⟨w.heap.size, 4, none⟩) hlt).trans q4⟩)
  (first | (go_at_call 173; refine (HG.out _).mono ?_; rintro e w3 ⟨⟨g', cb', cap', rfl, hN⟩, hb⟩))
 go_wp2
 go_ret2
 have hlN := hN.ok.lt
 have hb' : Below w1.heap.size w1 w3 := below_drew_left hb
 have hbs : w1.heap.size ≤ w3.heap.size := hb'.size
 have kb3 := kb.trans (hb'.mono kb.size)
 have g1 : w1.heap.size ≤ g' := hN.g1
 have c1 : w1.heap.size ≤ cb' := hN.c1
 exact ⟨⟨w3.heap.size, g', cb', cap', rfl, ⟨⟨heap_alloc_new _ _, hN.ok.keep (heap_alloc_old _ _ hlN.1) (heap_alloc_old _ _ hlN.2)⟩, kb3.size, by omega, by omega⟩⟩, kb3.alloc kb3.size _⟩

end Go.Proofs.YtbhppbeepmllaaaGreatDoor
