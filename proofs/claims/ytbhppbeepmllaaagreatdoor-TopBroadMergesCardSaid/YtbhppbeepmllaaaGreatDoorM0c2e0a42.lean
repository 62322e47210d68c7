import Derived.Test.YtbhppbeepmllaaaGreatDoorM380506be
import Derived.Laws.CopyOwn
set_option linter.unusedVariables false
set_option linter.unusedSimpArgs false
set_option maxRecDepth 100000
namespace Go.Proofs.YtbhppbeepmllaaaGreatDoor
open Go.RowKit

def zipI (f : Int → Int → Int) (xs ys : List Int) : List Int := List.zipWith f xs ys
def upZ (f : Int → Int → Int) (n : Nat) (xs ys : List Int) (k : Nat) : List Value := i64s (zipI f (xs.take k) (ys.take k)) ++ List.replicate (n - k) (.int .i64 0)
theorem upZ_set (f : Int → Int → Int) (n : Nat) (xs ys : List Int) (k : Nat) (h : k < n) (x y : Int) (hx : xs[k]? = some x) (hy : ys[k]? = some y) : (upZ f n xs ys k).set k (.int .i64 (f x y)) = upZ f n xs ys (k + 1) := by
 unfold upZ zipI
 have lx := (List.getElem?_eq_some_iff.1 hx).1
 have ly := (List.getElem?_eq_some_iff.1 hy).1
 rw [List.take_add_one, List.take_add_one, hx, hy]
 simp only [Option.toList_some]
 rw [List.zipWith_append (by simp; omega)]
 obtain ⟨d, hd⟩ : ∃ d, n - k = d + 1 := ⟨n - k - 1, by omega⟩
 have hd2 : n - (k + 1) = d := by omega
 rw [List.set_append_right _ _ (by simp [i64s]; omega)]
 have hl : (i64s (List.zipWith f (List.take k xs) (List.take k ys))).length = k := by simp [i64s]; omega
 rw [hl, hd, hd2]
 simp [i64s, List.replicate_succ]
theorem upZ_all (f : Int → Int → Int) (xs ys : List Int) (h : ys.length = xs.length) : upZ f xs.length xs ys xs.length = i64s (zipI f xs ys) := by
 unfold upZ
 rw [List.take_length, ← h, List.take_length]
 simp
theorem grid_setRow {w : World} {g cb cap rows width : Nat} {xs : List Int} (G : GridOk w g cb cap rows width xs) (cur : Array Value) (hcur : w.heap[cb]? = some (.cells cur 2 (0, 0))) (zs : List Int) (hz : zs.length = xs.length) :
  GridOk (w.setRow cb (i64s zs ++ cur.toList.drop zs.length).toArray) g cb cap rows width zs ∧ w.grownBy (w.setRow cb (i64s zs ++ cur.toList.drop zs.length).toArray) (some cb) := by
 obtain ⟨h1, h2, h3⟩ := G
 have hne : g ≠ cb := GridOk.ne ⟨h1, h2, h3⟩
 rcases h2.2 with ⟨e1, _⟩ | ⟨g', cap', cur', e1, e2, e3, e4, e5, e6, e7⟩
 ·simp at e1
 ·simp at e1
  obtain ⟨rfl, rfl⟩ := e1
  have hc := hcur.symm.trans e3
  simp at hc
  subst hc
  have hl : (i64s zs).length = xs.length := by simp [i64s, hz]
  refine ⟨⟨?_, ⟨by simp [i64s], .inr ⟨cb, cap, _, rfl, e2, setRow_heap w cb cur _ 2 _ hcur, by omega, e5, ?_, ?_⟩⟩, by rw [hz, h3]⟩, ⟨rfl, rfl, rfl, by simp [World.setRow], fun k _ hk => setRow_other w cb k _ (fun e => hk (by simp [e]))⟩⟩
  ·rw [setRow_other w cb g _ hne, hz]; exact h1
  ·simp [hl]; omega
  ·simp [hl, hz]
theorem own_block {w : World} {base : Nat} {e : TypeId} {g n cap : Nat} {xs : List Value} (h : w.ownsRow base e 1 (.slice (some ⟨g, 0, none⟩) n cap) n xs) : ∃ cur, w.heap[g]? = some (.cells cur e (0, 0)) ∧ n ≤ cur.size := by
 rcases h.2 with ⟨h1, _⟩ | ⟨g', cap', cur, h1, _, h2, h3, _, h4, _⟩
 ·simp at h1
 ·simp at h1
  obtain ⟨rfl, rfl⟩ := h1
  exact ⟨cur, h2, by omega⟩

theorem joint_plus (g cb cap h cc cap2 rows width : Nat) (xs ys : List Int) (w : World) (G : GridOk w g cb cap rows width xs) (H : GridOk w h cc cap2 rows width ys) (hn : 0 < xs.length) (hn2 : xs.length ≤ 1000000)
  (hx : ∀ x ∈ xs, -1152921504606846976 ≤ x ∧ x ≤ 1152921504606846976) (hy : ∀ x ∈ ys, -1152921504606846976 ≤ x ∧ x ≤ 1152921504606846976) :
  Calls Tryz.prog 261 #[.agg #[.pointer (some ⟨g, 0, none⟩), .func (.func 260) #[] #[]], .pointer (some ⟨h, 0, none⟩)] w fun e w' =>
   e = .returned (.int .i64 0) ∧ GridOk w' g cb cap rows width (zipI (· + ·) xs ys) ∧ w.grownBy w' (some cb) := by
 have hlg := G.lt
 have hlh := H.lt
 have hlen : ys.length = xs.length := H.sz.trans G.sz.symm
 obtain ⟨n, hN⟩ : ∃ n, xs.length = n := ⟨_, rfl⟩
 have gh := G.hd
 have hh := H.hd
 rw [hlen] at hh
 rw [hN] at gh hh hn hn2
 have HN := Lib.hid hN
 have HLen := Lib.hid hlen
 clear hN hlen
 have HX := Lib.hid hx
 have HY := Lib.hid hy
 clear hx hy
 have g0 : w.cell? ⟨g, 0, none⟩ = some (.int .i64 rows) := by simp [World.cell?, gh]
 have g1 : w.cell? ⟨g, 1, none⟩ = some (.int .i64 width) := by simp [World.cell?, gh]
 have g2 : w.cell? ⟨g, 2, none⟩ = some (.slice (some ⟨cb, 0, none⟩) n cap) := by simp [World.cell?, gh]
 have h0 : w.cell? ⟨h, 0, none⟩ = some (.int .i64 rows) := by simp [World.cell?, hh]
 have h1 : w.cell? ⟨h, 1, none⟩ = some (.int .i64 width) := by simp [World.cell?, hh]
 have h2 : w.cell? ⟨h, 2, none⟩ = some (.slice (some ⟨cc, 0, none⟩) n cap2) := by simp [World.cell?, hh]
 clear gh hh
 obtain ⟨W, hW⟩ : ∃ W, w.alloc (.cells #[.pointer (some ⟨g, 0, none⟩), .func (.func 260) #[] #[]] 392) = W := ⟨_, rfl⟩
 have wB : Below w.heap.size w W := by subst hW; exact (Below.refl _ _).alloc (Nat.le_refl _) _
 have wS : w.heap.size + 1 = W.heap.size := by subst hW; go_simp
 have t0 : W.cell? ⟨w.heap.size, 0, none⟩ = some (.pointer (some ⟨g, 0, none⟩)) := by subst hW; go_simp
 have t1 : W.cell? ⟨w.heap.size, 1, none⟩ = some (.func (.func 260) #[] #[]) := by subst hW; go_simp
 replace g0 := (wB.cell (p := ⟨g, 0, none⟩) hlg.1).trans g0
 replace g1 := (wB.cell (p := ⟨g, 1, none⟩) hlg.1).trans g1
 replace g2 := (wB.cell (p := ⟨g, 2, none⟩) hlg.1).trans g2
 replace h0 := (wB.cell (p := ⟨h, 0, none⟩) hlh.1).trans h0
 replace h1 := (wB.cell (p := ⟨h, 1, none⟩) hlh.1).trans h1
 replace h2 := (wB.cell (p := ⟨h, 2, none⟩) hlh.1).trans h2
 have WS := Lib.hid wS
 clear wS
 obtain ⟨i0, hi, hz0, hz1, hz2⟩ := info_parts Tryz.info2
 go_enter Tryz.func261, Tryz.ntmps261
 go_wp2_with fail

 clear hW
 go_quiet (fail)
 obtain ⟨W1, hW1⟩ : ∃ W1, W.drewN nq = W1 := ⟨_, rfl⟩
 replace g2 : W1.cell? ⟨g, 2, none⟩ = some (.slice (some ⟨cb, 0, none⟩) n cap) := by subst hW1; exact g2
 replace h2 : W1.cell? ⟨h, 2, none⟩ = some (.slice (some ⟨cc, 0, none⟩) n cap2) := by subst hW1; exact h2
 replace t0 : W1.cell? ⟨w.heap.size, 0, none⟩ = some (.pointer (some ⟨g, 0, none⟩)) := by subst hW1; exact t0
 replace t1 : W1.cell? ⟨w.heap.size, 1, none⟩ = some (.func (.func 260) #[] #[]) := by subst hW1; exact t1
 replace wB : Below w.heap.size w W1 := by subst hW1; exact below_drewN wB _
 have wS : w.heap.size + 1 = W1.heap.size := by subst hW1; exact WS.out
 rw [hW1]
 clear g0 g1 h0 h1 hW1 WS
 have hl3 : w.heap.size < W1.heap.size := by omega
 have hlg1 := hlg.1
 have hlg2 := hlg.2
 have hlh1 := hlh.1
 have hlh2 := hlh.2
 clear hlg hlh
 have WS := Lib.hid wS
 clear wS
 go_wp2_with (at_make; refine wpList_make_full _ rfl (.tmp 41) (.tmp 41) 34 rfl W1.heap.size 2 i0 (.int .i64 0) 1 Tryz.underlying34 hi hz0 hz1 .i64 .i64 n n n rfl rfl (by omega) (by omega) (by rw [hz2]; omega) (by unfold maxLen; omega) (by omega) ?_; intro w2 hown hgrow; have hb2 := below_of_grown hgrow; clear hgrow; have g2' := (hb2.cell (p := ⟨g, 2, none⟩) (by show g < _; omega)).trans g2; have h2' := (hb2.cell (p := ⟨h, 2, none⟩) (by show h < _; omega)).trans h2)
 simp only [Value.cells, Nat.mul_one, toList_madeCells_one] at hown
 go_loopw [48] (fun i wr => ∃ k : Nat, k ≤ n ∧ i = .int .i64 k ∧ wr.ownsRow W1.heap.size 2 1 (.slice (some ⟨W1.heap.size, 0, none⟩) n n) n (upZ (· + ·) n xs ys k) ∧ Below W1.heap.size W1 wr) (fun i _ => n - (intOf i).toNat)
 case atStart => exact ⟨0, by omega, rfl, hown, hb2⟩
 case round =>
  clear g2' h2' hown hb2 w2
  obtain ⟨k, hkn, rfl, hown, hB⟩ := hrel
  have wS := WS.out
  have wBr : Below w.heap.size w wr := wB.trans (hB.mono (by omega))
  by_cases hlt : k < n
  ·obtain ⟨x, hxk⟩ : ∃ x, xs[k]? = some x := ⟨_, List.getElem?_eq_getElem (by rw [HN.out]; exact hlt)⟩
   obtain ⟨y, hyk⟩ : ∃ y, ys[k]? = some y := ⟨_, List.getElem?_eq_getElem (by rw [HLen.out, HN.out]; exact hlt)⟩
   have bx := HX.out x (List.mem_of_getElem? hxk)
   have by' := HY.out y (List.mem_of_getElem? hyk)
   have cx : wr.cell? ⟨cb, k, none⟩ = some (.int .i64 x) := by
    rw [wBr.cell (p := ⟨cb, k, none⟩) hlg2, G.row.cellAt k (by rw [HN.out]; omega)]; simp [i64s, hxk]
   have cy : wr.cell? ⟨cc, k, none⟩ = some (.int .i64 y) := by
    rw [wBr.cell (p := ⟨cc, k, none⟩) hlh2, H.row.cellAt k (by rw [HLen.out, HN.out]; omega)]; simp [i64s, hyk]
   have r0 := (hB.cell (p := ⟨w.heap.size, 0, none⟩) (by show w.heap.size < _; omega)).trans t0
   have r1 := (hB.cell (p := ⟨w.heap.size, 1, none⟩) (by show w.heap.size < _; omega)).trans t1
   have rg := (hB.cell (p := ⟨g, 2, none⟩) (by show g < _; omega)).trans g2
   have hsz := hB.size
   have q0 := fun kk : After wr.heap.size wr => kk.cell (by omega) r0
   have q1 := fun kk : After wr.heap.size wr => kk.cell (by omega) r1
   have q2 := fun kk : After wr.heap.size wr => kk.cell (by omega) rg
   have q3 := fun kk : After wr.heap.size wr => kk.cell (by omega) cx
   have HS := Lib.hid (upZ_set (· + ·) n xs ys k hlt x y hxk hyk)
   have WW := Lib.hid wS
   clear wS hxk hyk
   go_wp2_with fail
   refine wp_region_after wr.heap.size (by kernel_rfl) (by kernel_rfl) ?_
   repeat (go_big_quiet_step ((go_at_call 260; exact after_of (Nat.le_refl _) _ (wplus_any x y _ (by omega) (by omega) (by omega) (by omega)))))
   refine wpQuiet_nil ?_
   intro kk
   have kB := kk.h
   have hown3 := hown.kept (grown_of_below kB none) (by simp [Value.ownBlock])
   obtain ⟨u, hu⟩ : ∃ u, (upZ (· + ·) n xs ys k)[k]? = some u := ⟨_, List.getElem?_eq_getElem (by have := hown.1; omega)⟩
   have hcell := hown3.cellAt k (by omega)
   rw [hu] at hcell
   have hfr := hown3.frozenAt k
   clear hu q0 q1 q2 q3 r0 r1 rg cx cy
   go_wp2
   go_roundw
   case rel => exact ⟨k + 1, by omega, by go_num, by rw [← HS.out]; exact (hown3.stored k _).1, (hB.trans (kB.mono hsz)).setCell (Nat.le_refl _) _⟩
   case measure => simp [intOf]; omega
  ·obtain rfl : k = n := by omega
   have r0 := (hB.cell (p := ⟨w.heap.size, 0, none⟩) (by show w.heap.size < _; omega)).trans t0
   have rg := (hB.cell (p := ⟨g, 2, none⟩) (by show g < _; omega)).trans g2
   obtain ⟨cur, hcur, hfit⟩ := own_block (G.below wBr hlg1 hlg2).row
   have hcells : ∀ j v, (i64s (zipI (· + ·) xs ys))[j]? = some v → wr.cell? ((⟨W1.heap.size, 0, none⟩ : Addr).add j) = some v := fun j v hj => by
    have e := upZ_all (· + ·) xs ys (by rw [HLen.out])
    rw [HN.out] at e
    rw [← e] at hj
    exact hown.cells (g := W1.heap.size) rfl j v hj
   have hzl : (i64s (zipI (· + ·) xs ys)).length = k := by simp [i64s, zipI, HLen.out, HN.out]
   rw [HN.out] at hfit
   have HZ := Lib.hid hzl
   have HCe := Lib.hid hcells
   have HCur := Lib.hid hcur
   clear hzl hcells hcur wS WS
   go_wp2_with (with_reducible refine wpList_copy_own rfl (.tmp 79) (.tmp 80) 34 34 rfl 2 Tryz.underlying34 (by kernel_rfl) cb 0 k cap ⟨W1.heap.size, 0, none⟩ k k rfl rfl cur 2 HCur.out (i64s (zipI (· + ·) xs ys)) (by rw [HZ.out]; exact (Nat.min_self k).symm) HCe.out (by rw [HZ.out]; omega) (ints_oneCell _ _) ?_)
   go_ret
   have hz : (zipI (· + ·) xs ys).length = xs.length := by simp [zipI, HLen.out]
   have hS := grid_setRow (G.below wBr hlg1 hlg2) cur HCur.out (zipI (· + ·) xs ys) hz
   exact ⟨rfl, hS.1, (grown_of_below wBr (some cb)).trans hS.2⟩

theorem joint_minus (g cb cap h cc cap2 rows width : Nat) (xs ys : List Int) (w : World) (G : GridOk w g cb cap rows width xs) (H : GridOk w h cc cap2 rows width ys) (hn : 0 < xs.length) (hn2 : xs.length ≤ 1000000)
  (hx : ∀ x ∈ xs, -1152921504606846976 ≤ x ∧ x ≤ 1152921504606846976) (hy : ∀ x ∈ ys, -1152921504606846976 ≤ x ∧ x ≤ 1152921504606846976) :
  Calls Tryz.prog 261 #[.agg #[.pointer (some ⟨g, 0, none⟩), .func (.func 198) #[] #[]], .pointer (some ⟨h, 0, none⟩)] w fun e w' =>
   e = .returned (.int .i64 0) ∧ GridOk w' g cb cap rows width (zipI (· - ·) xs ys) ∧ w.grownBy w' (some cb) := by
 have hlg := G.lt
 have hlh := H.lt
 have hlen : ys.length = xs.length := H.sz.trans G.sz.symm
 obtain ⟨n, hN⟩ : ∃ n, xs.length = n := ⟨_, rfl⟩
 have gh := G.hd
 have hh := H.hd
 rw [hlen] at hh
 rw [hN] at gh hh hn hn2
 have HN := Lib.hid hN
 have HLen := Lib.hid hlen
 clear hN hlen
 have HX := Lib.hid hx
 have HY := Lib.hid hy
 clear hx hy
 have g0 : w.cell? ⟨g, 0, none⟩ = some (.int .i64 rows) := by simp [World.cell?, gh]
 have g1 : w.cell? ⟨g, 1, none⟩ = some (.int .i64 width) := by simp [World.cell?, gh]
 have g2 : w.cell? ⟨g, 2, none⟩ = some (.slice (some ⟨cb, 0, none⟩) n cap) := by simp [World.cell?, gh]
 have h0 : w.cell? ⟨h, 0, none⟩ = some (.int .i64 rows) := by simp [World.cell?, hh]
 have h1 : w.cell? ⟨h, 1, none⟩ = some (.int .i64 width) := by simp [World.cell?, hh]
 have h2 : w.cell? ⟨h, 2, none⟩ = some (.slice (some ⟨cc, 0, none⟩) n cap2) := by simp [World.cell?, hh]
 clear gh hh
 obtain ⟨W, hW⟩ : ∃ W, w.alloc (.cells #[.pointer (some ⟨g, 0, none⟩), .func (.func 198) #[] #[]] 392) = W := ⟨_, rfl⟩
 have wB : Below w.heap.size w W := by subst hW; exact (Below.refl _ _).alloc (Nat.le_refl _) _
 have wS : w.heap.size + 1 = W.heap.size := by subst hW; go_simp
 have t0 : W.cell? ⟨w.heap.size, 0, none⟩ = some (.pointer (some ⟨g, 0, none⟩)) := by subst hW; go_simp
 have t1 : W.cell? ⟨w.heap.size, 1, none⟩ = some (.func (.func 198) #[] #[]) := by subst hW; go_simp
 replace g0 := (wB.cell (p := ⟨g, 0, none⟩) hlg.1).trans g0
 replace g1 := (wB.cell (p := ⟨g, 1, none⟩) hlg.1).trans g1
 replace g2 := (wB.cell (p := ⟨g, 2, none⟩) hlg.1).trans g2
 replace h0 := (wB.cell (p := ⟨h, 0, none⟩) hlh.1).trans h0
 replace h1 := (wB.cell (p := ⟨h, 1, none⟩) hlh.1).trans h1
 replace h2 := (wB.cell (p := ⟨h, 2, none⟩) hlh.1).trans h2
 have WS := Lib.hid wS
 clear wS
 obtain ⟨i0, hi, hz0, hz1, hz2⟩ := info_parts Tryz.info2
 go_enter Tryz.func261, Tryz.ntmps261
 go_wp2_with fail

 clear hW
 go_quiet (fail)
 obtain ⟨W1, hW1⟩ : ∃ W1, W.drewN nq = W1 := ⟨_, rfl⟩
 replace g2 : W1.cell? ⟨g, 2, none⟩ = some (.slice (some ⟨cb, 0, none⟩) n cap) := by subst hW1; exact g2
 replace h2 : W1.cell? ⟨h, 2, none⟩ = some (.slice (some ⟨cc, 0, none⟩) n cap2) := by subst hW1; exact h2
 replace t0 : W1.cell? ⟨w.heap.size, 0, none⟩ = some (.pointer (some ⟨g, 0, none⟩)) := by subst hW1; exact t0
 replace t1 : W1.cell? ⟨w.heap.size, 1, none⟩ = some (.func (.func 198) #[] #[]) := by subst hW1; exact t1
 replace wB : Below w.heap.size w W1 := by subst hW1; exact below_drewN wB _
 have wS : w.heap.size + 1 = W1.heap.size := by subst hW1; exact WS.out
 rw [hW1]
 clear g0 g1 h0 h1 hW1 WS
 have hl3 : w.heap.size < W1.heap.size := by omega
 have hlg1 := hlg.1
 have hlg2 := hlg.2
 have hlh1 := hlh.1
 have hlh2 := hlh.2
 clear hlg hlh
 have WS := Lib.hid wS
 clear wS
 go_wp2_with (at_make; refine wpList_make_full _ rfl (.tmp 41) (.tmp 41) 34 rfl W1.heap.size 2 i0 (.int .i64 0) 1 Tryz.underlying34 hi hz0 hz1 .i64 .i64 n n n rfl rfl (by omega) (by omega) (by rw [hz2]; omega) (by unfold maxLen; omega) (by omega) ?_; intro w2 hown hgrow; have hb2 := below_of_grown hgrow; clear hgrow; have g2' := (hb2.cell (p := ⟨g, 2, none⟩) (by show g < _; omega)).trans g2; have h2' := (hb2.cell (p := ⟨h, 2, none⟩) (by show h < _; omega)).trans h2)
 simp only [Value.cells, Nat.mul_one, toList_madeCells_one] at hown
 go_loopw [48] (fun i wr => ∃ k : Nat, k ≤ n ∧ i = .int .i64 k ∧ wr.ownsRow W1.heap.size 2 1 (.slice (some ⟨W1.heap.size, 0, none⟩) n n) n (upZ (· - ·) n xs ys k) ∧ Below W1.heap.size W1 wr) (fun i _ => n - (intOf i).toNat)
 case atStart => exact ⟨0, by omega, rfl, hown, hb2⟩
 case round =>
  clear g2' h2' hown hb2 w2
  obtain ⟨k, hkn, rfl, hown, hB⟩ := hrel
  have wS := WS.out
  have wBr : Below w.heap.size w wr := wB.trans (hB.mono (by omega))
  by_cases hlt : k < n
  ·obtain ⟨x, hxk⟩ : ∃ x, xs[k]? = some x := ⟨_, List.getElem?_eq_getElem (by rw [HN.out]; exact hlt)⟩
   obtain ⟨y, hyk⟩ : ∃ y, ys[k]? = some y := ⟨_, List.getElem?_eq_getElem (by rw [HLen.out, HN.out]; exact hlt)⟩
   have bx := HX.out x (List.mem_of_getElem? hxk)
   have by' := HY.out y (List.mem_of_getElem? hyk)
   have cx : wr.cell? ⟨cb, k, none⟩ = some (.int .i64 x) := by
    rw [wBr.cell (p := ⟨cb, k, none⟩) hlg2, G.row.cellAt k (by rw [HN.out]; omega)]; simp [i64s, hxk]
   have cy : wr.cell? ⟨cc, k, none⟩ = some (.int .i64 y) := by
    rw [wBr.cell (p := ⟨cc, k, none⟩) hlh2, H.row.cellAt k (by rw [HLen.out, HN.out]; omega)]; simp [i64s, hyk]
   have r0 := (hB.cell (p := ⟨w.heap.size, 0, none⟩) (by show w.heap.size < _; omega)).trans t0
   have r1 := (hB.cell (p := ⟨w.heap.size, 1, none⟩) (by show w.heap.size < _; omega)).trans t1
   have rg := (hB.cell (p := ⟨g, 2, none⟩) (by show g < _; omega)).trans g2
   have hsz := hB.size
   have q0 := fun kk : After wr.heap.size wr => kk.cell (by omega) r0
   have q1 := fun kk : After wr.heap.size wr => kk.cell (by omega) r1
   have q2 := fun kk : After wr.heap.size wr => kk.cell (by omega) rg
   have q3 := fun kk : After wr.heap.size wr => kk.cell (by omega) cx
   have HS := Lib.hid (upZ_set (· - ·) n xs ys k hlt x y hxk hyk)
   have WW := Lib.hid wS
   clear wS hxk hyk
   go_wp2_with fail
   refine wp_region_after wr.heap.size (by kernel_rfl) (by kernel_rfl) ?_
   repeat (go_big_quiet_step ((go_at_call 198; exact after_of (Nat.le_refl _) _ (wminus_any x y _ (by omega) (by omega) (by omega) (by omega)))))
   refine wpQuiet_nil ?_
   intro kk
   have kB := kk.h
   have hown3 := hown.kept (grown_of_below kB none) (by simp [Value.ownBlock])
   obtain ⟨u, hu⟩ : ∃ u, (upZ (· - ·) n xs ys k)[k]? = some u := ⟨_, List.getElem?_eq_getElem (by have := hown.1; omega)⟩
   have hcell := hown3.cellAt k (by omega)
   rw [hu] at hcell
   have hfr := hown3.frozenAt k
   clear hu q0 q1 q2 q3 r0 r1 rg cx cy
   go_wp2
   go_roundw
   case rel => exact ⟨k + 1, by omega, by go_num, by rw [← HS.out]; exact (hown3.stored k _).1, (hB.trans (kB.mono hsz)).setCell (Nat.le_refl _) _⟩
   case measure => simp [intOf]; omega
  ·obtain rfl : k = n := by omega
   have r0 := (hB.cell (p := ⟨w.heap.size, 0, none⟩) (by show w.heap.size < _; omega)).trans t0
   have rg := (hB.cell (p := ⟨g, 2, none⟩) (by show g < _; omega)).trans g2
   obtain ⟨cur, hcur, hfit⟩ := own_block (G.below wBr hlg1 hlg2).row
   have hcells : ∀ j v, (i64s (zipI (· - ·) xs ys))[j]? = some v → wr.cell? ((⟨W1.heap.size, 0, none⟩ : Addr).add j) = some v := fun j v hj => by
    have e := upZ_all (· - ·) xs ys (by rw [HLen.out])
    rw [HN.out] at e
    rw [← e] at hj
    exact hown.cells (g := W1.heap.size) rfl j v hj
   have hzl : (i64s (zipI (· - ·) xs ys)).length = k := by simp [i64s, zipI, HLen.out, HN.out]
   rw [HN.out] at hfit
   have HZ := Lib.hid hzl
   have HCe := Lib.hid hcells
   have HCur := Lib.hid hcur
   clear hzl hcells hcur wS WS
   go_wp2_with (with_reducible refine wpList_copy_own rfl (.tmp 79) (.tmp 80) 34 34 rfl 2 Tryz.underlying34 (by kernel_rfl) cb 0 k cap ⟨W1.heap.size, 0, none⟩ k k rfl rfl cur 2 HCur.out (i64s (zipI (· - ·) xs ys)) (by rw [HZ.out]; exact (Nat.min_self k).symm) HCe.out (by rw [HZ.out]; omega) (ints_oneCell _ _) ?_)
   go_ret
   have hz : (zipI (· - ·) xs ys).length = xs.length := by simp [zipI, HLen.out]
   have hS := grid_setRow (G.below wBr hlg1 hlg2) cur HCur.out (zipI (· - ·) xs ys) hz
   exact ⟨rfl, hS.1, (grown_of_below wBr (some cb)).trans hS.2⟩

theorem gplus_any (g cb cap h cc cap2 rows width : Nat) (xs ys : List Int) (w : World) (G : GridOk w g cb cap rows width xs) (H : GridOk w h cc cap2 rows width ys) (hn : 0 < xs.length) (hn2 : xs.length ≤ 1000000)
  (hx : ∀ x ∈ xs, -1152921504606846976 ≤ x ∧ x ≤ 1152921504606846976) (hy : ∀ x ∈ ys, -1152921504606846976 ≤ x ∧ x ≤ 1152921504606846976) :
  Calls Tryz.prog 238 #[.pointer (some ⟨g, 0, none⟩), .pointer (some ⟨h, 0, none⟩)] w fun e w' =>
   e = .returned (.int .i64 0) ∧ GridOk w' g cb cap rows width (zipI (· + ·) xs ys) ∧ w.grownBy w' (some cb) := by
 have hj := joint_plus g cb cap h cc cap2 rows width xs ys w G H hn hn2 hx hy
 have HJ := Lib.hid hj
 clear hj
 go_enter Tryz.func238, Tryz.ntmps238
 go_wp2_with fail
 refine HJ.out.mono ?_
 rintro e w1 ⟨rfl, hG, hg⟩
 go_wp2
 go_ret
 exact ⟨rfl, hG, hg⟩

theorem gminus_any (g cb cap h cc cap2 rows width : Nat) (xs ys : List Int) (w : World) (G : GridOk w g cb cap rows width xs) (H : GridOk w h cc cap2 rows width ys) (hn : 0 < xs.length) (hn2 : xs.length ≤ 1000000)
  (hx : ∀ x ∈ xs, -1152921504606846976 ≤ x ∧ x ≤ 1152921504606846976) (hy : ∀ x ∈ ys, -1152921504606846976 ≤ x ∧ x ≤ 1152921504606846976) :
  Calls Tryz.prog 240 #[.pointer (some ⟨g, 0, none⟩), .pointer (some ⟨h, 0, none⟩)] w fun e w' =>
   e = .returned (.int .i64 0) ∧ GridOk w' g cb cap rows width (zipI (· - ·) xs ys) ∧ w.grownBy w' (some cb) := by
 have hj := joint_minus g cb cap h cc cap2 rows width xs ys w G H hn hn2 hx hy
 have HJ := Lib.hid hj
 clear hj
 go_enter Tryz.func240, Tryz.ntmps240
 go_wp2_with fail
 refine HJ.out.mono ?_
 rintro e w1 ⟨rfl, hG, hg⟩
 go_wp2
 go_ret
 exact ⟨rfl, hG, hg⟩
end Go.Proofs.YtbhppbeepmllaaaGreatDoor
