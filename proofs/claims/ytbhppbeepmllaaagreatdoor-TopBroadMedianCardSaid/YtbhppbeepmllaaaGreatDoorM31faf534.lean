import Derived.Test.YtbhppbeepmllaaaGreatDoorMcf3fd1f5
set_option linter.unusedVariables false
set_option linter.unusedSimpArgs false
set_option maxRecDepth 100000
set_option maxHeartbeats 2000000
namespace Go.Proofs.YtbhppbeepmllaaaGreatDoor
open Go.RowKit

variable {B0 : Nat} {w w' w1 : World} {bd ag mb n : Nat} {c : Cfg} {K : List Nat} {F : Nat → List Int} {kv : Value} {fv : Nat → Value}
noncomputable def othersL (c : Cfg) (l p : Nat) (K : List Nat) (F : List Int) : List Int := (List.range c.r).map fun row => otherI c l p row K F
noncomputable def othG (c : Cfg) (l p : Nat) (K : List Nat) (F : List Int) (k t : Nat) : List Int := (List.range c.r).map fun row => otherI c l p row (K.take k) (F.take k) + if row < t ∧ (colEq c l row (K.getD k 0 / 2 ^ l) p && !(K.getD k 0 / 2 ^ l == p)) = true then F.getD k 0 else 0
theorem othG_len (c : Cfg) (l p : Nat) (K : List Nat) (F : List Int) (k t : Nat) : (othG c l p K F k t).length = c.r := by simp [othG]
theorem othG_zero (c : Cfg) (l p : Nat) (K : List Nat) (F : List Int) (k : Nat) : othG c l p K F k 0 = othersL c l p (K.take k) (F.take k) := by
 unfold othG othersL
 apply List.map_congr_left
 intro row hr
 rw [if_neg (by omega)]; omega
theorem othG_end (c : Cfg) (l p : Nat) (K : List Nat) (F : List Int) (hl : K.length = F.length) (k : Nat) (hk : k < K.length) : othG c l p K F k c.r = othersL c l p (K.take (k + 1)) (F.take (k + 1)) := by
 unfold othG othersL
 apply List.map_congr_left
 intro row hr
 unfold otherI
 rw [sumIf_take _ K F hl k hk]
 have hr2 : row < c.r := by simpa using hr
 by_cases hc : (colEq c l row (K.getD k 0 / 2 ^ l) p && !(K.getD k 0 / 2 ^ l == p)) = true
 ·rw [if_pos ⟨hr2, hc⟩, if_pos hc]
 ·rw [if_neg (fun h => hc h.2), if_neg hc]
theorem othG_skip (c : Cfg) (l p : Nat) (K : List Nat) (F : List Int) (hl : K.length = F.length) (k : Nat) (hk : k < K.length) (hp : K.getD k 0 / 2 ^ l = p) : othG c l p K F k 0 = othersL c l p (K.take (k + 1)) (F.take (k + 1)) := by
 rw [← othG_end c l p K F hl k hk]
 unfold othG
 apply List.map_congr_left
 intro row hr
 have hb : ¬ ((colEq c l row (K.getD k 0 / 2 ^ l) p && !(K.getD k 0 / 2 ^ l == p)) = true) := by rw [hp]; simp
 rw [if_neg (fun h => hb h.2), if_neg (fun h => hb h.2)]
theorem othG_no (c : Cfg) (l p : Nat) (K : List Nat) (F : List Int) (k t : Nat) (h : colEq c l t (K.getD k 0 / 2 ^ l) p = false) : othG c l p K F k (t + 1) = othG c l p K F k t := by
 unfold othG
 apply List.map_congr_left
 intro row hr
 congr 1
 by_cases e : row = t
 ·subst e
  have hb : ¬ ((colEq c l row (K.getD k 0 / 2 ^ l) p && !(K.getD k 0 / 2 ^ l == p)) = true) := by rw [h]; simp
  rw [if_neg (fun h => hb h.2), if_neg (fun h => hb h.2)]
 ·have e2 : (row < t + 1) = (row < t) := by apply propext; omega
  simp only [e2]
theorem othG_at (c : Cfg) (l p : Nat) (K : List Nat) (F : List Int) (k t : Nat) (ht : t < c.r) : (othG c l p K F k t)[t]? = some (otherI c l p t (K.take k) (F.take k)) := by
 unfold othG
 simp [ht]
theorem othG_set (c : Cfg) (l p : Nat) (K : List Nat) (F : List Int) (k t : Nat) (ht : t < c.r) (h : colEq c l t (K.getD k 0 / 2 ^ l) p = true) (hp : K.getD k 0 / 2 ^ l ≠ p) : (othG c l p K F k t).set t (otherI c l p t (K.take k) (F.take k) + F.getD k 0) = othG c l p K F k (t + 1) := by
 apply List.ext_getElem?
 intro row
 rw [List.getElem?_set]
 by_cases hr : row < c.r
 ·by_cases e : t = row
  ·subst e
   rw [if_pos rfl, if_pos (by rw [othG_len]; exact ht)]
   have hb : (colEq c l t (K.getD k 0 / 2 ^ l) p && !(K.getD k 0 / 2 ^ l == p)) = true := by rw [h]; simpa using hp
   unfold othG
   rw [List.getElem?_map, List.getElem?_range hr, Option.map_some, if_pos ⟨by omega, hb⟩]
  ·rw [if_neg e]
   unfold othG
   simp only [List.getElem?_map, List.getElem?_range hr, Option.map_some]
   have e2 : (row < t + 1) = (row < t) := by apply propext; omega
   simp only [e2]
 ·have hn : (othG c l p K F k (t + 1))[row]? = none := List.getElem?_eq_none (by rw [othG_len]; omega)
  rw [hn]
  split
  ·rw [if_neg (by rw [othG_len]; omega)]
  ·rw [List.getElem?_eq_none (by rw [othG_len]; omega)]
theorem lt_of_cell {w : World} {p : Addr} {v : Value} (h : w.cell? p = some v) : p.block < w.heap.size := by
 unfold World.cell? at h
 by_cases e : p.block < w.heap.size
 ·exact e
 ·rw [Array.getElem?_eq_none (by omega)] at h; simp at h
theorem i64s_get (L : List Int) (k : Nat) (hk : k < L.length) : (i64s L)[k]? = some (.int .i64 (L.getD k 0)) := by
 simp [i64s, List.getD_eq_getElem?_getD, List.getElem?_eq_getElem hk]
theorem gothers_any (S : BdRow B0 w bd ag c K F kv fv) (R : c.Ok) (hs : c.s < 18446744073709551616) (h l p : Nat) (h3 : h < 3) (hF : Mid (F h)) (hK : ∀ k ∈ K, k < c.keys 0) (hl : l ≤ c.b) (hp : p < c.keys l) :
  Calls Tryz.prog 39 #[.pointer (some ⟨bd, 0, none⟩), .int .i64 (h : Int), .agg #[.int .i64 (l : Int), .int .u64 (p : Int)]] w fun e w' => (∃ v, e = .returned v ∧ w'.ownsRow w.heap.size 2 1 v c.r (i64s (othersL c l p K (F h)))) ∧ Below w.heap.size w w' := by
 obtain ⟨i0, hi, hz0, hz1, hz2⟩ := info_parts Tryz.info2
 have kb0 : Below w.heap.size w (w.alloc (.cells #[.int .i64 (l : Int), .int .u64 (p : Int)] 55)) := (Below.refl _ _).alloc (Nat.le_refl _) _
 have x0 : (w.alloc (.cells #[.int .i64 (l : Int), .int .u64 (p : Int)] 55)).heap[w.heap.size]? = some (Obj.cells #[.int .i64 (l : Int), .int .u64 (p : Int)] 55 (0, 0)) := heap_alloc_at _ rfl
 have S1 := S.below kb0
 have hr1 := R.r1
 have hr2 := R.r2
 have hb2 := R.b2
 obtain ⟨W, hW⟩ : ∃ W, w.alloc (.cells #[.int .i64 (l : Int), .int .u64 (p : Int)] 55) = W := ⟨_, rfl⟩
 rw [hW] at kb0 x0 S1
 have lx := lt_of_block x0
 have lb := lt_of_block S1.hd
 have y0 := cell_of_heap x0 0 _ rfl
 have y1 := cell_of_heap x0 1 _ rfl
 have y2 := cell_of_heap S1.hd 1 _ rfl
 have y3 := cell_of_heap S1.hd 2 _ rfl
 have y4 := cell_of_heap S1.hd 3 _ rfl
 have y5 := cell_of_heap S1.hd 4 _ rfl
 have y6 := cell_of_heap S1.hd 5 _ rfl
 have HC := Lib.hid fun (k : Nat) (hk : k < c.keys l) (w : World) => (show Calls Tryz.prog 21 #[.agg #[.int .i64 c.b, .int .i64 c.r, .int .i64 c.wd, .int .i64 c.m, .int .u64 c.s], .int .i64 (l : Int), .int .u64 (k : Int)] w fun e w' => (∃ g cp, e = .returned (.slice (some ⟨g, 0, none⟩) c.r cp) ∧ w.heap.size ≤ g ∧ g < w'.heap.size ∧ ∀ t, t < c.r → w'.cell? ⟨g, t, none⟩ = some (.int .i64 ((c.cols l k).getD t 0))) ∧ Below w.heap.size w w' by
  refine (cols_any c.b c.r c.wd c.m c.s l k w R.rc (by omega) (by omega) (by omega) (by rw [keysV_nat]; unfold Cfg.keys at hk; omega)).mono ?_
  rintro e w' ⟨⟨v, rfl, hO⟩, hb⟩
  rw [Int.toNat_natCast] at hO
  rcases hO.2 with ⟨h1, h2⟩ | ⟨g, cp, cur, hv, hg⟩
  ·omega
  ·subst hv
   refine ⟨⟨g, cp, rfl, (hO.lt g rfl).1, (hO.lt g rfl).2, fun t ht => ?_⟩, hb⟩
   rw [hO.cellAt t (by omega)]
   have := i64s_get (c.cols l k) t (by rw [c.cols_len]; exact ht)
   exact this)
 have HS := Lib.hid (And.intro S1 (And.intro kb0 x0))
 clear S S1 x0
 go_enter Tryz.func39, Tryz.ntmps39
 go_wp2_with fail
 clear hW
 refine wp_region_mixA W.heap.size [0, 1, 2, 3, 4, 5, 6, 7] [8, 9] (by kernel_rfl) (by kernel_rfl) rfl ?_
 simp only [opsAt, List.map_cons, List.map_nil, List.getElem?_toArray, List.getElem?_cons_zero, List.getElem?_cons_succ, Option.getD_some]
 have z0 := fun k : After W.heap.size W => k.cell lx y0
 have z1 := fun k : After W.heap.size W => k.cell lx y1
 have z2 := fun k : After W.heap.size W => k.cell lb y2
 have z3 := fun k : After W.heap.size W => k.cell lb y3
 have z4 := fun k : After W.heap.size W => k.cell lb y4
 have z5 := fun k : After W.heap.size W => k.cell lb y5
 have z6 := fun k : After W.heap.size W => k.cell lb y6
 repeat (go_big_quiet_step (fail))
 refine wpQuiet_nil ?_
 intro kk
 unfold calmQ
 have kb := kk.h
 clear z0 z1 z2 z3 z4 z5 z6
 obtain ⟨W2, hw1⟩ : ∃ W2, kk.w = W2 := ⟨_, rfl⟩
 rw [hw1] at kb
 rw [hw1]
 clear hw1
 clear y0 y1 y2 y3 y4 y5 y6
 go_wp2_with fail
 refine (HC.out p hp _).mono ?_
 rintro e w2 ⟨⟨g7, c7, rfl, g71, g72, H7⟩, hb3⟩
 have kW := kb.trans (hb3.mono kb.size)
 have S2 := HS.out.1.below kW
 have y3 := cell_of_heap S2.hd 2 _ rfl
 have x2 := (kW.block _ lx).trans HS.out.2.2
 have kw2 := kb0.trans (kW.mono kb0.size)
 have H7H := Lib.hid H7
 have HS2 := Lib.hid (And.intro S2 (And.intro kw2 x2))
 have lx2 := lt_of_block x2
 have lb2 := lt_of_block S2.hd
 have hwz := kw2.size
 clear S2 x2 kW kb kb0 hb3 H7
 go_wp2_with (at_make; refine wpList_make_full _ rfl (.tmp 26) (.tmp 26) 34 rfl w2.heap.size 2 i0 (.int .i64 0) 1 Tryz.underlying34 hi hz0 hz1 .i64 .i64 c.r c.r c.r rfl rfl (by omega) (by omega) (by rw [hz2]; omega) (by unfold maxLen; omega) (by omega) ?_; intro w3 hown hgrow; have hb4 := below_of_grown hgrow; clear hgrow)
 simp only [Value.cells, Nat.mul_one, toList_madeCells_one] at hown
 have hz0L : List.replicate c.r (Value.int .i64 0) = i64s (othersL c l p (K.take 0) ((F h).take 0)) := by
  have e : othersL c l p (K.take 0) ((F h).take 0) = List.replicate c.r 0 := by
   unfold othersL otherI
   simp only [List.take_zero, sumIf]
   exact List.map_const' .. |>.trans (by simp)
  rw [e]; simp [i64s]
 rw [hz0L] at hown
 clear hz0L y3
 go_loopw [9] (fun i wr => ∃ k : Nat, k ≤ K.length ∧ i = .int .i64 (k : Int) ∧ wr.ownsRow w2.heap.size 2 1 (.slice (some ⟨w2.heap.size, 0, none⟩) c.r c.r) c.r (i64s (othersL c l p (K.take k) ((F h).take k))) ∧ Below w2.heap.size w2 wr) (fun i _ => K.length - (intOf i).toNat)
 case atStart => exact ⟨0, by omega, rfl, hown, hb4⟩
 case round =>
  clear hown hb4 w3
  obtain ⟨k, hkn, rfl, hown, hB⟩ := hrel
  have Sr := HS2.out.1.below hB
  have p6 := cell_of_heap Sr.hd 6 _ rfl
  have hfl := Sr.fl h h3
  by_cases hlt : k < K.length
  ·have c0 : decide ((k : Int) < K.length) = true := by simp; omega
   obtain ⟨g, cap, hv, hc⟩ := Sr.key hlt
   cases hv
   have xr := (hB.block _ lx2).trans HS2.out.2.2
   have p0 := cell_of_heap xr 0 _ rfl
   have hkx : K.getD k 0 < c.keys 0 := by
    rw [List.getD_eq_getElem?_getD, List.getElem?_eq_getElem hlt]; exact hK _ (List.getElem_mem hlt)
   have hql := prefix_lt c hl hkx
   have HG := Lib.hid (And.intro (othG_skip c l p K (F h) hfl.symm k hlt) (And.intro (othG_end c l p K (F h) hfl.symm k hlt) (And.intro (othG_no c l p K (F h) k) (othG_set c l p K (F h) k))))
   rw [← othG_zero] at hown
   have HL := Lib.hid (And.intro hown hB)
   have hfx := hF.at k
   obtain ⟨x, hx⟩ : ∃ x, K.getD k 0 = x := ⟨_, rfl⟩
   rw [hx] at hc hkx hql HG
   have hxq : ((x : Int) / 2 ^ l) = ((x / 2 ^ l : Nat) : Int) := by simp
   obtain ⟨xq, hq⟩ : ∃ xq, x / 2 ^ l = xq := ⟨_, rfl⟩
   rw [hq] at hxq hql HG
   have HN := Lib.hid (And.intro hx hq)
   obtain ⟨m, hm⟩ : ∃ m, K.length = m := ⟨_, rfl⟩
   have hK4 : K.length ≤ 4096 := by rw [← hfl]; exact hF.1
   rw [hm] at p6 c0 hlt hkn hK4 ⊢
   have HM := Lib.hid hm
   have hkl := R.keys_le' 0
   have hzr := hB.size
   clear hx hq hm Sr hown hB xr
   go_wp2_with fail
   go_quiet (fail)
   obtain ⟨X1, hX1⟩ : ∃ X1, wr.drewN nq = X1 := ⟨_, rfl⟩
   have k1 : Below wr.heap.size wr X1 := by rw [← hX1]; exact below_drewN (Below.refl _ _) _
   rw [hX1]
   clear hX1 p6 p0 hc
   have kX1 := HL.out.2.trans (k1.mono HL.out.2.size)
   have SX1 := HS2.out.1.below kX1
   have xX1 := (kX1.block _ lx2).trans HS2.out.2.2
   have lbX := lt_of_block SX1.hd
   have lxX := lt_of_block xX1
   have z1 := fun kk : After X1.heap.size X1 => kk.cell lbX (cell_of_heap SX1.hd 1 _ rfl)
   have z2 := fun kk : After X1.heap.size X1 => kk.cell lbX (cell_of_heap SX1.hd 2 _ rfl)
   have z3 := fun kk : After X1.heap.size X1 => kk.cell lbX (cell_of_heap SX1.hd 3 _ rfl)
   have z4 := fun kk : After X1.heap.size X1 => kk.cell lbX (cell_of_heap SX1.hd 4 _ rfl)
   have z5 := fun kk : After X1.heap.size X1 => kk.cell lbX (cell_of_heap SX1.hd 5 _ rfl)
   have z0 := fun kk : After X1.heap.size X1 => kk.cell lxX (cell_of_heap xX1 0 _ rfl)
   have HX1 := Lib.hid (And.intro k1 kX1)
   clear SX1 xX1 k1 kX1
   go_wp2_with fail
   refine wp_region_mixA X1.heap.size [0, 1, 2, 3, 4, 5, 6] [7, 8] (by kernel_rfl) (by kernel_rfl) rfl ?_
   simp only [opsAt, List.map_cons, List.map_nil, List.getElem?_toArray, List.getElem?_cons_zero, List.getElem?_cons_succ, Option.getD_some]
   repeat (go_big_quiet_step (fail))
   refine wpQuiet_nil ?_
   intro kk
   unfold calmQ
   have kb := kk.h
   clear z0 z1 z2 z3 z4 z5
   obtain ⟨X2, hX2⟩ : ∃ X2, kk.w = X2 := ⟨_, rfl⟩
   rw [hX2] at kb
   rw [hX2]
   clear hX2
   have HKB := Lib.hid kb
   clear kb
   go_wp2_with fail
   refine (HC.out xq hql _).mono ?_
   rintro e w5 ⟨⟨g8, c8, rfl, g81, g82, H8⟩, hb5⟩
   have K15 : Below wr.heap.size wr w5 := (HX1.out.1.trans (HKB.out.mono HX1.out.1.size)).trans (hb5.mono (Nat.le_trans HX1.out.1.size HKB.out.size))
   have kW5 := HL.out.2.trans (K15.mono HL.out.2.size)
   have hw5 := own_below HL.out.1 K15
   have hg8 : w2.heap.size < g8 := by
    have := HX1.out.1.size
    have := HKB.out.size
    have h9 := (HL.out.1.lt w2.heap.size rfl).2
    omega
   have H58 := Lib.hid (And.intro hw5 (And.intro kW5 H8))
   clear K15 kW5 hw5 hb5 H8 g81
   go_wp2_with fail
   go_loopw [12] (fun i wz => ∃ t : Nat, t ≤ c.r ∧ (xq = p → t = 0) ∧ i = .int .i64 (t : Int) ∧ wz.ownsRow w2.heap.size 2 1 (.slice (some ⟨w2.heap.size, 0, none⟩) c.r c.r) c.r (i64s (othG c l p K (F h) k t)) ∧ Below w2.heap.size w2 wz ∧ ∀ t, t < c.r → wz.cell? ⟨g8, t, none⟩ = some (.int .i64 ((c.cols l xq).getD t 0))) (fun i _ => c.r - (intOf i).toNat)
   case atStart => exact ⟨0, by omega, fun _ => rfl, rfl, H58.out.1, H58.out.2.1, H58.out.2.2⟩
   case round =>
    obtain ⟨t, ht, ht0, rfl, hown, hB, H8⟩ := hrel
    have Sz := HS2.out.1.below hB
    have y3 := cell_of_heap Sz.hd 2 _ rfl
    have xz := (hB.block _ lx2).trans HS2.out.2.2
    have p1 := cell_of_heap xz 1 _ rfl
    have HLZ := Lib.hid (And.intro hown (And.intro hB (And.intro H8 ht0)))
    by_cases htl : t < c.r
    ·have c1 : decide ((t : Int) < (c.r : Int)) = true := by simp; omega
     by_cases hxp : xq = p
     ·have d3 : ((xq : Int) != (p : Int)) = false := by simp [hxp]
      have HXP := Lib.hid hxp
      clear hown hB H8 ht0 hxp Sz xz
      go_wp2_with fail
      have HRel : ∃ k' : Nat, k' ≤ m ∧ Value.int IntKind.i64 ((k : Int) + 1) = .int .i64 (k' : Int) ∧ World.ownsRow wr w2.heap.size 2 1 (.slice (some ⟨w2.heap.size, 0, none⟩) c.r c.r) c.r (i64s (othersL c l p (K.take k') ((F h).take k'))) ∧ Below w2.heap.size w2 wr := ⟨k + 1, by omega, by simp, by have h0 := HLZ.out.2.2.2 HXP.out; have h1 := HLZ.out.1; rw [h0, HG.out.1 HXP.out] at h1; exact h1, HLZ.out.2.1⟩
      go_roundw
      case rel => first | exact HRel | ((repeat apply Exists.intro); exact ⟨HRel, rfl⟩)
      case measure => simp [intOf]; omega
     ·have d3 : ((xq : Int) != (p : Int)) = true := by simp; omega
      have HXP := Lib.hid hxp
      have ca := H8 t htl
      have cb := (hB.cell (p := ⟨g7, t, none⟩) g72).trans (H7H.out t htl)
      have hcq : colEq c l t xq p = decide ((c.cols l xq).getD t 0 = (c.cols l p).getD t 0) := rfl
      obtain ⟨a, ha⟩ : ∃ a, (c.cols l xq).getD t 0 = a := ⟨_, rfl⟩
      obtain ⟨b, hb⟩ : ∃ b, (c.cols l p).getD t 0 = b := ⟨_, rfl⟩
      rw [ha] at ca hcq
      rw [hb] at cb hcq
      have hce : (a == b) = colEq c l t xq p := by rw [hcq]; rw [Bool.eq_iff_iff]; simp
      obtain ⟨ce, hcee⟩ : ∃ ce, colEq c l t xq p = ce := ⟨_, rfl⟩
      rw [hcee] at hce
      have HCE := Lib.hid hcee
      clear hown hB H8 ht0 hxp Sz xz ha hb hcq hcee
      cases ce with
      | false =>
       go_wp2_with fail
       go_quiet (fail)
       go_wp2_with fail
       have HRel : ∃ t' : Nat, t' ≤ c.r ∧ (xq = p → t' = 0) ∧ Value.int IntKind.i64 ((t : Int) + 1) = .int .i64 (t' : Int) ∧ World.ownsRow (wr.drewN nq) w2.heap.size 2 1 (.slice (some ⟨w2.heap.size, 0, none⟩) c.r c.r) c.r (i64s (othG c l p K (F h) k t')) ∧ Below w2.heap.size w2 (wr.drewN nq) ∧ ∀ t, t < c.r → World.cell? (wr.drewN nq) ⟨g8, t, none⟩ = some (.int .i64 ((c.cols l xq).getD t 0)) := ⟨t + 1, by omega, fun e => absurd e HXP.out, by simp, by rw [HG.out.2.2.1 t HCE.out]; exact own_below HLZ.out.1 (below_drewN (Below.refl _ _) _), below_drewN HLZ.out.2.1 _, HLZ.out.2.2.1⟩
       go_roundw
       case rel => first | exact HRel | ((repeat apply Exists.intro); exact ⟨HRel, rfl⟩)
       case measure => simp [intOf]; omega
      | true =>
       go_wp2_with fail
       go_quiet (fail)
       obtain ⟨X3, hX3⟩ : ∃ X3, wr.drewN nq = X3 := ⟨_, rfl⟩
       have k3 : Below wr.heap.size wr X3 := by rw [← hX3]; exact below_drewN (Below.refl _ _) _
       rw [hX3]
       clear hX3 ca cb y3 p1
       have kX3 := HLZ.out.2.1.trans (k3.mono HLZ.out.2.1.size)
       have S3 := HS2.out.1.below kX3
       have hO3 := own_below HLZ.out.1 k3
       obtain ⟨gf, capf, hvf, hcf⟩ := S3.val h3 (show k < K.length by have := HM.out; omega)
       have qF := S3.cellF h3
       rw [hvf] at qF
       have lbz := lt_of_block S3.hd
       have lgf : gf < X3.heap.size := ((S3.fr h h3).lt gf (by rw [hvf]; rfl)).2
       have lgo : w2.heap.size < X3.heap.size := (hO3.lt w2.heap.size rfl).2
       have co := hO3.cellAt t (by omega)
       have cf := hO3.frozenAt t
       have hat : (i64s (othG c l p K (F h) k t))[t]? = some (.int .i64 (otherI c l p t (K.take k) ((F h).take k))) := by
        have h1 := othG_at c l p K (F h) k t htl
        simp [i64s, h1]
       rw [hat] at co
       have hset := HG.out.2.2.2 t htl HCE.out HXP.out
       have ob := hF.sum (fun k => colEq c l t (k / 2 ^ l) p && !(k / 2 ^ l == p)) K k
       have ob2 : -4611686018427387904 ≤ otherI c l p t (K.take k) ((F h).take k) ∧ otherI c l p t (K.take k) ((F h).take k) ≤ 4611686018427387904 := ob
       obtain ⟨oo, hoo⟩ : ∃ oo, otherI c l p t (K.take k) ((F h).take k) = oo := ⟨_, rfl⟩
       rw [hoo] at co hset ob2 hat
       have HAT := Lib.hid hat
       obtain ⟨y, hy⟩ : ∃ y, (F h).getD k 0 = y := ⟨_, rfl⟩
       rw [hy] at hcf hset hfx
       rw [HM.out] at qF
       have HOO := Lib.hid hoo
       have HST := Lib.hid (And.intro hset (And.intro hO3 (And.intro kX3 k3)))
       have za := fun kk : After X3.heap.size X3 => kk.cell lgo co
       have zb := fun kk : After X3.heap.size X3 => kk.cell lbz qF
       have zc := fun kk : After X3.heap.size X3 => kk.cell lgf hcf
       clear S3 hO3 hvf hoo hy hat hset ob kX3 k3 co qF hcf cf
       go_wp2_with fail
       refine wp_region_mixA X3.heap.size [0, 1, 2, 3, 4, 5, 6, 7, 8, 9, 10, 11, 12, 13, 14, 15, 16] [17] (by kernel_rfl) (by kernel_rfl) rfl ?_
       simp only [opsAt, List.map_cons, List.map_nil, List.getElem?_toArray, List.getElem?_cons_zero, List.getElem?_cons_succ, Option.getD_some]
       repeat (go_big_quiet_step (fail))
       refine wpQuiet_nil ?_
       intro kk
       unfold calmQ
       have kb := kk.h
       clear za zb zc
       obtain ⟨X4, hX4⟩ : ∃ X4, kk.w = X4 := ⟨_, rfl⟩
       rw [hX4] at kb
       rw [hX4]
       clear hX4
       have hO4 := own_below HST.out.2.1 kb
       have K4 := HST.out.2.2.2.trans (kb.mono HST.out.2.2.2.size)
       have co := hO4.cellAt t (by omega)
       have cf := hO4.frozenAt t
       have hat := HAT.out
       rw [hat] at co
       have HO4 := Lib.hid (And.intro hO4 (And.intro K4 hat))
       clear hO4 K4 kb hat
       go_wp2_with fail
       have HRel : ∃ t' : Nat, t' ≤ c.r ∧ (xq = p → t' = 0) ∧ Value.int IntKind.i64 ((t : Int) + 1) = .int .i64 (t' : Int) ∧ World.ownsRow (X4.setCell ⟨w2.heap.size, t, none⟩ (.int .i64 (oo + y))) w2.heap.size 2 1 (.slice (some ⟨w2.heap.size, 0, none⟩) c.r c.r) c.r (i64s (othG c l p K (F h) k t')) ∧ Below w2.heap.size w2 (X4.setCell ⟨w2.heap.size, t, none⟩ (.int .i64 (oo + y))) ∧ ∀ tt, tt < c.r → World.cell? (X4.setCell ⟨w2.heap.size, t, none⟩ (.int .i64 (oo + y))) ⟨g8, tt, none⟩ = some (.int .i64 ((c.cols l xq).getD tt 0)) := ⟨t + 1, by omega, fun e => absurd e HXP.out, by simp, by rw [← HST.out.1]; have h1 := (HO4.out.1.stored t (.int .i64 (oo + y))).1; have h2 : (i64s (othG c l p K (F h) k t)).set t (.int .i64 (oo + y)) = i64s ((othG c l p K (F h) k t).set t (oo + y)) := (by simp [i64s, List.map_set]); rw [h2] at h1; exact h1, (HLZ.out.2.1.trans (HO4.out.2.1.mono HLZ.out.2.1.size)).setCell (Nat.le_refl _) _, fun t' ht' => (World.cell?_of_block (w := X4) (heap_setCell_other _ _ _ _ (fun e => by dsimp only at e; omega))).trans ((HO4.out.2.1.cell (p := ⟨g8, t', none⟩) (lt_of_cell (HLZ.out.2.2.1 t' ht'))).trans (HLZ.out.2.2.1 t' ht'))⟩
       go_roundw
       case rel => obtain ⟨t9, e1, e2, e3, e4, e5, e6⟩ := HRel; refine ⟨t9, ?_, ?_, ?_, ?_, ?_, ?_⟩; exact e1; exact e2; exact e3; exact e4; exact e5; exact e6
       case measure => simp [intOf]; omega
    ·obtain rfl : t = c.r := by omega
     have c1 : decide ((c.r : Int) < (c.r : Int)) = false := by simp
     clear hown hB H8 ht0 Sz xz
     go_wp2_with fail
     have HRel0 := HG.out.2.1
     have HRel : ∃ k' : Nat, k' ≤ m ∧ Value.int IntKind.i64 ((k : Int) + 1) = .int .i64 (k' : Int) ∧ World.ownsRow wr w2.heap.size 2 1 (.slice (some ⟨w2.heap.size, 0, none⟩) c.r c.r) c.r (i64s (othersL c l p (K.take k') ((F h).take k'))) ∧ Below w2.heap.size w2 wr := ⟨k + 1, by omega, by simp, by have h1 := HLZ.out.1; rw [HG.out.2.1] at h1; exact h1, HLZ.out.2.1⟩
     go_roundw
     case rel => first | exact HRel | ((repeat apply Exists.intro); exact ⟨HRel, rfl⟩)
     case measure => simp [intOf]; omega
  ·have HH := HS2.out
   obtain rfl : k = K.length := by omega
   have c0 : decide ((K.length : Int) < K.length) = false := by simp
   have hFt : (F h).take K.length = F h := by rw [← hfl, List.take_length]
   rw [List.take_length, hFt] at hown
   obtain ⟨ko, kc, hkv⟩ := Sr.kform
   rw [hkv] at p6
   have HFIN := Lib.hid (And.intro hown hB)
   clear hown hB Sr hkv hFt hfl
   go_wp2_with fail
   go_ret
   refine ⟨⟨_, rfl, HFIN.out.1.1, ?_⟩, HH.2.1.trans (HFIN.out.2.mono HH.2.1.size)⟩
   rcases HFIN.out.1.2 with h1 | ⟨g, cap, cur, h1, h2, h4⟩
   ·exact .inl h1
   ·exact .inr ⟨g, cap, cur, h1, Nat.le_trans HH.2.1.size h2, h4⟩
end Go.Proofs.YtbhppbeepmllaaaGreatDoor
