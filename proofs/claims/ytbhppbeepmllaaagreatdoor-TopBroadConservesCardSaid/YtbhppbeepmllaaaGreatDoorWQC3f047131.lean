import Derived.Test.YtbhppbeepmllaaaGreatDoorWQM0830e4da2
import Derived.Test.YtbhppbeepmllaaaGreatDoorWQBeeaac124
set_option linter.unusedVariables false
set_option linter.unusedSimpArgs false
set_option maxRecDepth 100000
set_option maxHeartbeats 2000000
namespace Go.Proofs.YtbhppbeepmllaaaGreatDoor
open Go.RowKit

theorem itoa_m1 : Lib.itoa (-1) = [45, 49] := by
 unfold Lib.itoa
 rw [if_pos (by decide)]
 have h := itoa_small 1 (by decide)
 unfold Lib.itoa at h
 rw [if_neg (by decide)] at h
 have e : (-1 : Int).natAbs = ((1 : Nat) : Int).toNat := by decide
 rw [e, h]
 rfl
theorem law_cons_c (c : Cfg) (R : c.Ok) (m0 : Int) (hm : c.m = 2) (a0 : Nat) (ha0 : a0 < 18446744073709551616) (a1 : Nat) (ha1 : a1 < 18446744073709551616) (a2 : Nat) (ha2 : a2 < 18446744073709551616) (v : Value) (l : List Opr) (hll : l.length ≤ 9223372036854775807) (w : World) (ht : Tab w) (hv : OpsAt w w.heap.size v l) :
  Calls Tryz.prog 7 #[.agg #[.int .i64 c.b, .int .i64 c.r, .int .i64 c.wd, .int .i64 m0, .int .u64 c.s], v, .agg #[.int .u64 (a0 : Int), .int .u64 (a1 : Int), .int .u64 (a2 : Int)]] w fun e w' => e = .returned (.bool true) ∧ Below w.heap.size w w' := by
 obtain ⟨so, cap, hv1, _⟩ := id hv
 subst hv1
 have kb : Below w.heap.size w ((w.alloc (.cells #[.int .i64 c.b, .int .i64 c.r, .int .i64 c.wd, .int .i64 m0, .int .u64 c.s] 24)).alloc (.cells #[.int .u64 (a0 : Int), .int .u64 (a1 : Int), .int .u64 (a2 : Int)] 82)) := ((Below.refl _ _).alloc (Nat.le_refl _) _).alloc (by simp) _
 have x0 : ((w.alloc (.cells #[.int .i64 c.b, .int .i64 c.r, .int .i64 c.wd, .int .i64 m0, .int .u64 c.s] 24)).alloc (.cells #[.int .u64 (a0 : Int), .int .u64 (a1 : Int), .int .u64 (a2 : Int)] 82)).heap[w.heap.size]? = some (Obj.cells #[.int .i64 c.b, .int .i64 c.r, .int .i64 c.wd, .int .i64 m0, .int .u64 c.s] 24 (0, 0)) := heap_alloc_under _ (heap_alloc_at _ rfl)
 have x1 : ((w.alloc (.cells #[.int .i64 c.b, .int .i64 c.r, .int .i64 c.wd, .int .i64 m0, .int .u64 c.s] 24)).alloc (.cells #[.int .u64 (a0 : Int), .int .u64 (a1 : Int), .int .u64 (a2 : Int)] 82)).heap[w.heap.size + 1]? = some (Obj.cells #[.int .u64 (a0 : Int), .int .u64 (a1 : Int), .int .u64 (a2 : Int)] 82 (0, 0)) := heap_alloc_at _ (by simp)
 have htw := ht.below kb ht.lt
 have hv2 := hv.below kb
 obtain ⟨W, hW⟩ : ∃ W, ((w.alloc (.cells #[.int .i64 c.b, .int .i64 c.r, .int .i64 c.wd, .int .i64 m0, .int .u64 c.s] 24)).alloc (.cells #[.int .u64 (a0 : Int), .int .u64 (a1 : Int), .int .u64 (a2 : Int)] 82)) = W := ⟨_, rfl⟩
 rw [hW] at x0 x1 kb htw hv2
 have ly := lt_of_block x1
 have lx := lt_of_block x0
 have HX := Lib.hid (And.intro (And.intro x0 x1) (And.intro kb (And.intro htw hv2)))
 have hb1 := R.b1
 have hb2 := R.b2
 have HWK := Lib.hid (works_any W htw)
 have HRT := Lib.hid fun w => (show Calls Tryz.prog 11 #[.agg #[.int .i64 c.b, .int .i64 c.r, .int .i64 c.wd, .int .i64 m0, .int .u64 c.s]] w fun e w' => e = .returned (.bool true) ∧ Below w.heap.size w w' by
  have h := topright c.b c.r c.wd m0 c.s w
  rw [decide_eq_true (show rightP c.b c.r c.wd 1 from R.right1)] at h
  exact h)
 have e2 : ((c.m : Nat) : Int) = 2 := by rw [hm]; rfl
 have HAC := Lib.hid fun (w1 : World) (hb : Below W.heap.size W w1) => (show Calls Tryz.prog 12 #[.agg #[.int .i64 c.b, .int .i64 c.r, .int .i64 c.wd, .int .i64 m0, .int .u64 c.s], .int .i64 2, .slice so l.length cap] w1 fun e w' => ∃ bd, e = .returned (.pointer (some ⟨bd, 0, none⟩)) ∧ ActOut c w1 l bd w' by
  have h := gacted_any c R R.s2 m0 (.slice so l.length cap) l hll w1 (htw.below hb htw.lt) ((hv2.below (hb.mono kb.size)).mono (Nat.le_trans kb.size hb.size))
  rw [e2] at h
  exact h)
 have HM := Lib.hid hm
 clear x0 x1 hv hv2 kb hm e2 htw ht
 go_enter Tryz.func7, Tryz.ntmps7
 go_wp2_with fail
 clear hW
 refine HWK.out.mono ?_
 rintro e w1 ⟨rfl, hb1w⟩
 have q0 := cell_of_heap ((hb1w.block _ lx).trans HX.out.1.1) 0 _ rfl
 have q1 := cell_of_heap ((hb1w.block _ lx).trans HX.out.1.1) 1 _ rfl
 have q2 := cell_of_heap ((hb1w.block _ lx).trans HX.out.1.1) 2 _ rfl
 have q3 := cell_of_heap ((hb1w.block _ lx).trans HX.out.1.1) 3 _ rfl
 have q4 := cell_of_heap ((hb1w.block _ lx).trans HX.out.1.1) 4 _ rfl
 go_wp2_with fail
 refine (HRT.out _).mono ?_
 rintro e w2 ⟨rfl, hb2w⟩
 have kb2 := hb1w.trans (hb2w.mono hb1w.size)
 clear hb1w hb2w q0 q1 q2 q3 q4
 have q0 := cell_of_heap ((kb2.block _ lx).trans HX.out.1.1) 0 _ rfl
 have q1 := cell_of_heap ((kb2.block _ lx).trans HX.out.1.1) 1 _ rfl
 have q2 := cell_of_heap ((kb2.block _ lx).trans HX.out.1.1) 2 _ rfl
 have q3 := cell_of_heap ((kb2.block _ lx).trans HX.out.1.1) 3 _ rfl
 have q4 := cell_of_heap ((kb2.block _ lx).trans HX.out.1.1) 4 _ rfl
 go_wp2_with fail
 refine (HAC.out _ kb2).mono ?_
 rintro e w3 ⟨bd, rfl, B0, ag, mb, sd, lb, lcap, vs, cs0, kvW, fvW, hz, hB0, S3, hb3⟩
 have kb3 := kb2.trans (hb3.mono kb2.size)
 have A := act_ok R hz l
 obtain ⟨st, hst⟩ : ∃ st, runS c ⟨[], fun _ => [], cs0⟩ (l.take 25) = st := ⟨_, rfl⟩
 rw [hst] at S3 A
 obtain ⟨K, F, cs⟩ := st
 dsimp only at S3 A
 have HZ := Lib.hid (And.intro hz hst)
 clear hst kb2 hb3 hB0 q0 q1 q2 q3 q4 HWK HRT HAC hz
 have HA := Lib.hid A
 have q0 := cell_of_heap ((kb3.block _ lx).trans HX.out.1.1) 0 _ rfl
 have q1 := cell_of_heap ((kb3.block _ lx).trans HX.out.1.1) 1 _ rfl
 have q2 := cell_of_heap ((kb3.block _ lx).trans HX.out.1.1) 2 _ rfl
 have q3 := cell_of_heap ((kb3.block _ lx).trans HX.out.1.1) 3 _ rfl
 have q4 := cell_of_heap ((kb3.block _ lx).trans HX.out.1.1) 4 _ rfl
 have HBR := Lib.hid (show Calls Tryz.prog 36 #[.agg #[.int .i64 c.b, .int .i64 c.r, .int .i64 c.wd, .int .i64 m0, .int .u64 c.s], .int .i64 1] w3 fun e w' => ∃ bd, e = .returned (.pointer (some ⟨bd, 0, none⟩)) ∧ BroadNew c.lin w3 bd w' from gbroad_any c.lin R.lin R.s2 m0 w3 (S3.a.tab))
 have HS := Lib.hid (And.intro S3 kb3)
 clear A S3
 go_wp2_with fail
 refine HBR.out.mono ?_
 rintro e w4 ⟨bd2, rfl, ag2, mb2, sd2, lb2, lcap2, vs2, ct, kv2, fv2, T4, hz2, hb4⟩
 have HZ2 := Lib.hid hz2
 have HT4 := Lib.hid (And.intro T4 hb4)
 have kb4 := kb3.trans (hb4.mono kb3.size)
 have HB4 := Lib.hid kb4
 clear kb3 T4 hz2 hb4 kb4 q0 q1 q2 q3 q4 HBR
 go_wp2_with fail
 go_loopw [10] (fun i wr => ∃ (j : Nat) (kv : Value) (fv : Nat → Value), j ≤ l.length ∧ j ≤ 25 ∧ i = .int .i64 (j : Int) ∧ Brd w3.heap.size wr bd2 ag2 mb2 3 sd2 lb2 lcap2 vs2 c.lin (runV c ⟨[], fun _ => [], ct⟩ (l.take j)).K (runV c ⟨[], fun _ => [], ct⟩ (l.take j)).F (runV c ⟨[], fun _ => [], ct⟩ (l.take j)).cs kv fv ∧ Below w3.heap.size w3 wr) (fun i _ => 26 - (intOf i).toNat)
 case atStart => exact ⟨0, kv2, fv2, by omega, by omega, rfl, HT4.out.1, HT4.out.2⟩
 case round =>
  obtain ⟨j, kv, fv, hj1, hj2, rfl, S, hB⟩ := hrel
  by_cases hlt : j < l.length
  ·have c0 : decide ((j : Int) < l.length) = true := by simp; omega
   by_cases h25 : j < 25
   ·have c1 : decide ((j : Int) < 25) = true := by simp; omega
    obtain ⟨p, hp⟩ : ∃ p, l[j]? = some p := ⟨_, List.getElem?_eq_getElem hlt⟩
    obtain ⟨so2, cap2, hv3, HO⟩ := HX.out.2.2.2
    cases hv3
    obtain ⟨hpo, b, o, hso, hbl, y0, y1, y2, y3, y4⟩ := HO j p hp
    subst hso
    have kWr := HS.out.2.trans (hB.mono HS.out.2.size)
    have hzz := HX.out.2.1.size
    have r0 := (kWr.cell (p := ⟨b, _, none⟩) (by dsimp only; omega)).trans y0
    have r1 := (kWr.cell (p := ⟨b, _, none⟩) (by dsimp only; omega)).trans y1
    have r2 := (kWr.cell (p := ⟨b, _, none⟩) (by dsimp only; omega)).trans y2
    have r3 := (kWr.cell (p := ⟨b, _, none⟩) (by dsimp only; omega)).trans y3
    have r4 := (kWr.cell (p := ⟨b, _, none⟩) (by dsimp only; omega)).trans y4
    have A := runV_ok R HZ2.out l j hj1
    have hpow : (1 : Int) ≤ 2 ^ j := by
     have h1 := Nat.one_le_two_pow (n := j)
     have h2 : ((2 ^ j : Nat) : Int) = 2 ^ j := by simp
     omega
    have hpow2 : (2 : Int) ^ j ≤ 33554432 := by
     have h1 : 2 ^ j ≤ 2 ^ 25 := Nat.pow_le_pow_right (by decide) (by omega)
     have h2 : ((2 ^ j : Nat) : Int) = 2 ^ j := by simp
     omega
    have ka : Below wr.heap.size wr (wr.alloc (.cells #[.int .i64 p.kind, .int .i64 p.H, .int .i64 p.O, .int .u64 (p.key : Int), .int .i64 p.D] 84)) := (Below.refl _ _).alloc (Nat.le_refl _) _
    have xa : (wr.alloc (.cells #[.int .i64 p.kind, .int .i64 p.H, .int .i64 p.O, .int .u64 (p.key : Int), .int .i64 p.D] 84)).heap[wr.heap.size]? = some (Obj.cells #[.int .i64 p.kind, .int .i64 p.H, .int .i64 p.O, .int .u64 (p.key : Int), .int .i64 p.D] 84 (0, 0)) := heap_alloc_at _ rfl
    have HD := Lib.hid (fun wr' (S : Brd w3.heap.size wr' bd2 ag2 mb2 3 sd2 lb2 lcap2 vs2 c.lin _ _ _ kv fv) => does_any S R.lin _ j A (by omega) (by omega) (by omega) (cutOp p) (cutOp_ok hpo))
    have hpj : l[j] = p := by rw [List.getElem?_eq_getElem hlt] at hp; exact Option.some.inj hp
    have hstep : runV c ⟨[], fun _ => [], ct⟩ (l.take (j + 1)) = stepV c (runV c ⟨[], fun _ => [], ct⟩ (l.take j)) p := by rw [List.take_succ_eq_append_getElem hlt, runV_snoc, hpj]
    have HST := Lib.hid hstep
    have HR := Lib.hid (And.intro S (And.intro hB (And.intro ka xa)))
    obtain ⟨n, hn⟩ : ∃ n, l.length = n := ⟨_, rfl⟩
    rw [hn] at hll hlt c0 ⊢
    have HN := Lib.hid hn
    have q0 := cell_of_heap xa 0 _ rfl
    have q1 := cell_of_heap xa 1 _ rfl
    have q2 := cell_of_heap xa 2 _ rfl
    have q3 := cell_of_heap xa 3 _ rfl
    have q4 := cell_of_heap xa 4 _ rfl
    obtain ⟨X, hX⟩ : ∃ X, wr.alloc (.cells #[.int .i64 p.kind, .int .i64 p.H, .int .i64 p.O, .int .u64 (p.key : Int), .int .i64 p.D] 84) = X := ⟨_, rfl⟩
    rw [hX] at HR q0 q1 q2 q3 q4
    clear S hB kWr ka xa y0 y1 y2 y3 y4 HO A hp hn hstep hpj
    by_cases h4 : p.kind = 4
    ·have d4 : (p.kind == 4) = true := by simpa using h4
     have H4 := Lib.hid h4
     clear h4
     go_wp2_with fail
     have HRel : ∃ (j' : Nat) (kv : Value) (fv : Nat → Value), j' ≤ n ∧ j' ≤ 25 ∧ Value.int IntKind.i64 ((j : Int) + 1) = .int .i64 (j' : Int) ∧ Brd w3.heap.size X bd2 ag2 mb2 3 sd2 lb2 lcap2 vs2 c.lin (runV c ⟨[], fun _ => [], ct⟩ (l.take j')).K (runV c ⟨[], fun _ => [], ct⟩ (l.take j')).F (runV c ⟨[], fun _ => [], ct⟩ (l.take j')).cs kv fv ∧ Below w3.heap.size w3 X := ⟨j + 1, kv, fv, by omega, by omega, by simp, by rw [HST.out]; unfold stepV; rw [if_pos H4.out]; exact HR.out.1.below HR.out.2.2.1, HR.out.2.1.trans (HR.out.2.2.1.mono HR.out.2.1.size)⟩
     go_roundw
     case rel => first | exact HRel | ((repeat apply Exists.intro); exact ⟨HRel, rfl⟩)
     case measure => simp [intOf]; omega
    ·have d4 : (p.kind == 4) = false := by simpa using h4
     have H4 := Lib.hid h4
     clear h4
     have SX := HR.out.1.below HR.out.2.2.1
     have kX := HR.out.2.1.trans (HR.out.2.2.1.mono HR.out.2.1.size)
     by_cases h3 : p.kind = 3
     ·have d3 : (p.kind != 3) = false := by simpa using h3
      have ec : cutOp p = p := by unfold cutOp; rw [if_pos h3]
      have HE := Lib.hid ec
      rw [ec] at HD
      have HSX := Lib.hid (And.intro SX kX)
      clear h3 ec SX kX
      go_wp2_with fail
      refine (HD.out _ HSX.out.1).mono ?_
      rintro e w5 ⟨rfl, ⟨kv5, fv5, S5⟩, u5⟩
      have hB5 := HSX.out.1.lowQ HSX.out.2 u5
      have HS5 := Lib.hid (And.intro S5 hB5)
      clear S5 u5 hB5
      go_wp2_with fail
      have HRel : ∃ (j' : Nat) (kv : Value) (fv : Nat → Value), j' ≤ n ∧ j' ≤ 25 ∧ Value.int IntKind.i64 ((j : Int) + 1) = .int .i64 (j' : Int) ∧ Brd w3.heap.size w5 bd2 ag2 mb2 3 sd2 lb2 lcap2 vs2 c.lin (runV c ⟨[], fun _ => [], ct⟩ (l.take j')).K (runV c ⟨[], fun _ => [], ct⟩ (l.take j')).F (runV c ⟨[], fun _ => [], ct⟩ (l.take j')).cs kv fv ∧ Below w3.heap.size w3 w5 := ⟨j + 1, kv5, fv5, by omega, by omega, by simp, by rw [HST.out]; unfold stepV; rw [if_neg H4.out, HE.out]; exact HS5.out.1, HS5.out.2⟩
      go_roundw
      case rel => first | exact HRel | ((repeat apply Exists.intro); exact ⟨HRel, rfl⟩)
      case measure => simp [intOf]; omega
     ·have d3 : (p.kind != 3) = true := by simpa using h3
      have ec : cutOp p = { p with D := smallI 2 p.D } := by unfold cutOp; rw [if_neg h3]
      have S3X := HS.out.1.below kX
      have hds : smallI c.m p.D = smallI 2 p.D := by rw [HM.out]
      have HSM := Lib.hid fun w => gsmall_any c R p.D hpo.d0 hpo.d1 w
      rw [hds] at HSM
      obtain ⟨d, hd⟩ : ∃ d, smallI 2 p.D = d := ⟨_, rfl⟩
      rw [hd] at HSM ec
      have HE := Lib.hid ec
      have HDD := Lib.hid (fun wr' (S : Brd w3.heap.size wr' bd2 ag2 mb2 3 sd2 lb2 lcap2 vs2 c.lin _ _ _ kv fv) => (show Calls Tryz.prog 38 #[.pointer (some ⟨bd2, 0, none⟩), .agg #[.int .i64 p.kind, .int .i64 p.H, .int .i64 p.O, .int .u64 (p.key : Int), .int .i64 d]] wr' _ from by
       have hg := HD.out wr' S
       rw [ec] at hg
       exact hg))
      have y4 := q4
      have lX := lt_of_block HR.out.2.2.2
      have ly1 := cell_of_heap S3X.r.hd 1 _ rfl
      have ly2 := cell_of_heap S3X.r.hd 2 _ rfl
      have ly3 := cell_of_heap S3X.r.hd 3 _ rfl
      have ly4 := cell_of_heap S3X.r.hd 4 _ rfl
      have ly5 := cell_of_heap S3X.r.hd 5 _ rfl
      have lbX := lt_of_block S3X.r.hd
      have HSX := Lib.hid (And.intro SX (And.intro kX S3X))
      clear h3 ec SX kX S3X hds hd HD
      go_wp2_with fail
      refine wp_region_mixA X.heap.size [0, 1, 2, 3, 4, 5, 6, 7] [8] (by kernel_rfl) (by kernel_rfl) rfl ?_
      simp only [opsAt, List.map_cons, List.map_nil, List.getElem?_toArray, List.getElem?_cons_zero, List.getElem?_cons_succ, Option.getD_some]
      have za := fun k : After X.heap.size X => k.cell lX y4
      have z1 := fun k : After X.heap.size X => k.cell lbX ly1
      have z2 := fun k : After X.heap.size X => k.cell lbX ly2
      have z3 := fun k : After X.heap.size X => k.cell lbX ly3
      have z4 := fun k : After X.heap.size X => k.cell lbX ly4
      have z5 := fun k : After X.heap.size X => k.cell lbX ly5
      repeat (go_big_quiet_step ((go_at_call 37; exact after_of (Nat.le_refl _) _ (HSM.out _))))
      refine wpQuiet_nil ?_
      intro kk
      unfold calmQ
      have kb := kk.h
      clear za z1 z2 z3 z4 z5 ly1 ly2 ly3 ly4 ly5 y4 q0 q1 q2 q3 q4
      obtain ⟨w6, hw1⟩ : ∃ w6, kk.w = w6 := ⟨_, rfl⟩
      rw [hw1] at kb
      rw [hw1]
      clear hw1
      have x6 := (kb.block _ lX).trans HR.out.2.2.2
      have xf := heap_setCell_same _ _ 4 _ _ (.int .i64 d) x6
      have kf : Below wr.heap.size wr (w6.setCell ⟨wr.heap.size, 4, none⟩ (.int .i64 d)) := (HR.out.2.2.1.trans (kb.mono HR.out.2.2.1.size)).setCell (Nat.le_refl _) _
      have p0 := cell_of_heap x6 0 _ rfl
      have p1 := cell_of_heap x6 1 _ rfl
      have p2 := cell_of_heap x6 2 _ rfl
      have p3 := cell_of_heap x6 3 _ rfl
      have p4 := cell_of_heap x6 4 _ rfl
      have fz : w6.frozen? ⟨wr.heap.size, 4, none⟩ = false := by simp [World.frozen?, x6]
      have HW6 := Lib.hid (And.intro xf kf)
      clear x6 xf kf kb
      go_wp2_with fail
      have S6 := HR.out.1.below HW6.out.2
      refine (HDD.out _ S6).mono ?_
      rintro e w7 ⟨rfl, ⟨kv5, fv5, S5⟩, u5⟩
      have hB5 := S6.lowQ (HR.out.2.1.trans (HW6.out.2.mono HR.out.2.1.size)) u5
      have HS5 := Lib.hid (And.intro S5 hB5)
      clear S5 u5 hB5 S6 p0 p1 p2 p3 p4 fz
      go_wp2_with fail
      have HRel : ∃ (j' : Nat) (kv : Value) (fv : Nat → Value), j' ≤ n ∧ j' ≤ 25 ∧ Value.int IntKind.i64 ((j : Int) + 1) = .int .i64 (j' : Int) ∧ Brd w3.heap.size w7 bd2 ag2 mb2 3 sd2 lb2 lcap2 vs2 c.lin (runV c ⟨[], fun _ => [], ct⟩ (l.take j')).K (runV c ⟨[], fun _ => [], ct⟩ (l.take j')).F (runV c ⟨[], fun _ => [], ct⟩ (l.take j')).cs kv fv ∧ Below w3.heap.size w3 w7 := ⟨j + 1, kv5, fv5, by omega, by omega, by simp, by rw [HST.out]; unfold stepV; rw [if_neg H4.out, HE.out]; exact HS5.out.1, HS5.out.2⟩
      go_roundw
      case rel => first | exact HRel | ((repeat apply Exists.intro); exact ⟨HRel, rfl⟩)
      case measure => simp [intOf]; omega
   ·obtain rfl : j = 25 := by omega
    have c1 : decide (((25 : Nat) : Int) < 25) = false := by decide
    have A1 := runV_ok R HZ2.out l 25 hj1
    have SM := run_sim R HM.out HZ.out.1 HZ2.out l 25 hj1
    have HFIN := Lib.hid (And.intro S (And.intro (HS.out.2.trans (hB.mono HS.out.2.size)) (And.intro (HS.out.1.below hB) (And.intro (A1.mono (M' := 35184372088832) (N' := 25) (by decide) (by decide)) SM))))
    clear S hB A1 SM
    obtain ⟨S, kwr, S3, A2, SM⟩ := HFIN.out
    obtain ⟨sv, hsv⟩ : ∃ sv, runV c ⟨[], fun _ => [], ct⟩ (l.take 25) = sv := ⟨_, rfl⟩
    rw [hsv] at S A2 SM
    rw [HZ.out.2] at SM
    obtain ⟨K2, F2, cs2⟩ := sv
    obtain ⟨e1, e2, hle⟩ := SM
    dsimp only at S A2 e1 e2 hle
    subst e1
    subst e2
    have A := HA.out
    have r0 := cell_of_heap ((kwr.block _ ly).trans HX.out.1.2) 0 _ rfl
    have r1 := cell_of_heap ((kwr.block _ ly).trans HX.out.1.2) 1 _ rfl
    have r2 := cell_of_heap ((kwr.block _ ly).trans HX.out.1.2) 2 _ rfl
    have h3 : a0 % 3 < 3 := Nat.mod_lt _ (by decide)
    have hsh : ((a0 : Int) / 256) = ((a0 / 256 : Nat) : Int) := by simp
    have HPR := Lib.hid (gprefix_any S3.r R A.keys (by have := A.few; omega) a1 a2 (a0 / 256) ha1 ha2 (by omega))
    have hL := preL_le c a1
    have hpk := prefix_lt c hL (preK_lt c A.keys a2 (a0 / 256))
    obtain ⟨h, hh⟩ : ∃ h, a0 % 3 = h := ⟨_, rfl⟩
    rw [hh] at h3
    have hm3 : (a0 : Int) % 3 = (h : Int) := by rw [← hh]; simp
    have hmid := A.mid (by decide) (by decide) h3
    obtain ⟨L, hLe⟩ : ∃ L, preL c a1 = L := ⟨_, rfl⟩
    rw [hLe] at hL hpk HPR
    obtain ⟨p, hpe⟩ : ∃ p, preK c K a2 (a0 / 256) / 2 ^ L = p := ⟨_, rfl⟩
    rw [hpe] at hpk HPR
    obtain ⟨q8, hq8⟩ : ∃ q8, a0 / 256 = q8 := ⟨_, rfl⟩
    rw [hq8] at hsh HPR
    have hkl := R.keys_le' L
    have ht1 := A.told_bd (by decide) h3 L p hL
    have ht2 := A2.told_bd (c := c.lin) (by decide) h3 L p hL
    have hlo : massI L p K (F h) ≤ c.lvTold L p (cs (h + 1) L) := A.low R (.inr HM.out) h3 (A.cons HM.out h h3).2 L p hL hpk
    have hhi : c.lvTold L p (cs (h + 1) L) ≤ c.lin.lvTold L p (cs2 (h + 1) L) := (hle h h3).told c.lin rfl rfl rfl rfl rfl R HM.out L p hL hpk
    have hmb := mass_bd (A.fb h h3) (by rw [A.len h h3]; exact A.few) K L p
    have HMS := Lib.hid fun (X : World) (S : Brd B0 X bd ag mb 3 sd lb lcap vs c K F cs kvW fvW) => gmass_any S.r h L p h3 hmid (fun k hk => by have := A.keys k hk; have := R.keys_le' 0; omega) (by omega)
    have HPT := Lib.hid fun (X : World) (S : Brd B0 X bd ag mb 3 sd lb lcap vs c K F cs kvW fvW) => gpoint_any S R (by decide) h (by omega) L p hL hpk (by omega)
    have HPV := Lib.hid fun (X : World) (S : Brd w3.heap.size X bd2 ag2 mb2 3 sd2 lb2 lcap2 vs2 c.lin K F cs2 kv fv) => gpoint_any S R.lin (by decide) h (by omega) L p hL hpk (by omega)
    obtain ⟨mv, hmv⟩ : ∃ mv, massI L p K (F h) = mv := ⟨_, rfl⟩
    obtain ⟨tv, htv⟩ : ∃ tv, c.lvTold L p (cs (h + 1) L) = tv := ⟨_, rfl⟩
    obtain ⟨uv, huv⟩ : ∃ uv, c.lin.lvTold L p (cs2 (h + 1) L) = uv := ⟨_, rfl⟩
    rw [hmv] at HMS hlo hmb
    rw [htv] at HPT hlo hhi ht1
    rw [huv] at HPV hhi ht2
    have f1 : decide (mv ≤ tv) = true := decide_eq_true hlo
    have f2 : decide (tv ≤ uv) = true := decide_eq_true hhi
    have HFV := Lib.hid (And.intro S (And.intro kwr S3))
    clear S kwr S3 A2 A hle hmid hmv htv huv hlo hhi hsv hh hLe hpe hq8
    go_wp2_with fail
    refine HPR.out.mono ?_
    rintro e wp ⟨rfl, hbp⟩
    have Sp := HFV.out.1.below hbp
    have S3p := HFV.out.2.2.below hbp
    have kp := HFV.out.2.1.trans (hbp.mono HFV.out.2.1.size)
    have ka : Below wp.heap.size wp (wp.alloc (Obj.cells #[Value.int IntKind.i64 L, Value.int IntKind.u64 (p : Int)] 55)) := (Below.refl _ _).alloc (Nat.le_refl _) _
    have xa : (wp.alloc (Obj.cells #[Value.int IntKind.i64 L, Value.int IntKind.u64 (p : Int)] 55)).heap[wp.heap.size]? = some (Obj.cells #[Value.int IntKind.i64 L, Value.int IntKind.u64 (p : Int)] 55 (0, 0)) := heap_alloc_at _ rfl
    obtain ⟨Xa, hXa⟩ : ∃ Xa, wp.alloc (Obj.cells #[Value.int IntKind.i64 L, Value.int IntKind.u64 (p : Int)] 55) = Xa := ⟨_, rfl⟩
    rw [hXa] at ka xa
    have Sa := Sp.below ka
    have S3a := S3p.below ka
    have kA := kp.trans (ka.mono kp.size)
    have p0 := cell_of_heap xa 0 _ rfl
    have p1 := cell_of_heap xa 1 _ rfl
    have lxa := lt_of_block xa
    have HSa := Lib.hid (And.intro Sa (And.intro kA S3a))
    clear Sp S3p kp ka Sa S3a kA hbp xa r0 r1 r2
    go_wp2_with fail
    clear hXa
    refine (HPT.out _ HSa.out.2.2).mono ?_
    rintro e wb ⟨rfl, hbb⟩
    have Sb := HSa.out.1.below hbb
    have S3b := HSa.out.2.2.below hbb
    have kB := HSa.out.2.1.trans (hbb.mono HSa.out.2.1.size)
    replace p0 := (hbb.cell (p := ⟨wp.heap.size, 0, none⟩) lxa).trans p0
    replace p1 := (hbb.cell (p := ⟨wp.heap.size, 1, none⟩) lxa).trans p1
    replace lxa := Nat.lt_of_lt_of_le lxa hbb.size
    have HSb := Lib.hid (And.intro Sb (And.intro kB S3b))
    clear Sb S3b kB hbb
    go_wp2_with fail
    refine (HPV.out _ HSb.out.1).mono ?_
    rintro e wc ⟨rfl, hbc⟩
    have S3c := HSb.out.2.2.below hbc
    have kC := HSb.out.2.1.trans (hbc.mono HSb.out.2.1.size)
    replace p0 := (hbc.cell (p := ⟨wp.heap.size, 0, none⟩) lxa).trans p0
    replace p1 := (hbc.cell (p := ⟨wp.heap.size, 1, none⟩) lxa).trans p1
    replace lxa := Nat.lt_of_lt_of_le lxa hbc.size
    have z0 := cell_of_heap S3c.r.hd 0 _ rfl
    have HL1 := Lib.hid (show Calls Tryz.prog 13 #[.pointer (some ⟨ag, 0, none⟩), .string ⟨#[115, 117, 98, 116, 114, 97, 99, 116, 32, 49, 32, 50]⟩] wc fun e w' => e = .returned (.tuple #[.string ⟨#[101, 114, 114, 111, 114, 32, 51]⟩, .bool true]) ∧ Below wc.heap.size wc w' from ln_subno S3c.a R (by decide) 1 2 (by decide) (by decide) (by decide) (by decide) HM.out _ (by simp only [lnB, List.flatMap_cons, List.flatMap_nil]; rw [show (((1 : Nat) : Int)) = ((1 : Nat) : Int) from rfl, itoa_small 1 (by decide), itoa_small 2 (by decide)]; rfl))
    have HSc := Lib.hid (And.intro kC S3c)
    clear S3c kC hbc
    go_wp2_with fail
    refine HL1.out.mono ?_
    rintro e wd ⟨rfl, hbd⟩
    have S3d := HSc.out.2.below hbd
    have kD := HSc.out.1.trans (hbd.mono HSc.out.1.size)
    replace p0 := (hbd.cell (p := ⟨wp.heap.size, 0, none⟩) lxa).trans p0
    replace p1 := (hbd.cell (p := ⟨wp.heap.size, 1, none⟩) lxa).trans p1
    replace lxa := Nat.lt_of_lt_of_le lxa hbd.size
    have z1 := cell_of_heap S3d.r.hd 0 _ rfl
    have HL2 := Lib.hid (show Calls Tryz.prog 13 #[.pointer (some ⟨ag, 0, none⟩), .string ⟨#[97, 100, 100, 32, 49, 32, 48, 32, 45, 49]⟩] wd fun e w' => e = .returned (.tuple #[.string ⟨#[101, 114, 114, 111, 114, 32, 51]⟩, .bool true]) ∧ Below wd.heap.size wd w' from ln_addno S3d.a R (by decide) 1 0 (-1) (by decide) (by decide) Nat.one_le_two_pow (by decide) (by decide) HM.out _ (by simp only [lnB, List.flatMap_cons, List.flatMap_nil]; rw [itoa_small 1 (by decide), show (((0 : Nat) : Int)) = ((0 : Nat) : Int) from rfl, itoa_small 0 (by decide), itoa_m1]; rfl))
    have HSd := Lib.hid (And.intro kD S3d)
    clear S3d kD hbd z0
    go_wp2_with fail
    refine HL2.out.mono ?_
    rintro e we ⟨rfl, hbe⟩
    have S3e := HSd.out.2.below hbe
    have kE := HSd.out.1.trans (hbe.mono HSd.out.1.size)
    replace p0 := (hbe.cell (p := ⟨wp.heap.size, 0, none⟩) lxa).trans p0
    replace p1 := (hbe.cell (p := ⟨wp.heap.size, 1, none⟩) lxa).trans p1
    have HSe := Lib.hid (And.intro kE S3e)
    clear S3e kE hbe z1
    go_wp2_with fail
    refine (HMS.out _ HSe.out.2).mono ?_
    rintro e wf ⟨rfl, hbf⟩
    have HF := Lib.hid (HX.out.2.1.trans ((HSe.out.1.trans (hbf.mono HSe.out.1.size)).mono HX.out.2.1.size))
    clear hbf p0 p1
    go_wp2_with fail
    go_ret
    exact ⟨rfl, HF.out⟩
  ·obtain rfl : j = l.length := by omega
   have c0 : decide ((l.length : Int) < l.length) = false := by simp
   have ht25 : l.take l.length = l.take 25 := by rw [List.take_length, List.take_of_length_le (show l.length ≤ 25 by omega)]
   have A1 := runV_ok R HZ2.out l l.length (Nat.le_refl _)
   have SM := run_sim R HM.out HZ.out.1 HZ2.out l l.length (Nat.le_refl _)
   have hpow2 : (2 : Int) ^ l.length ≤ 33554432 := by
    have h1 : 2 ^ l.length ≤ 2 ^ 25 := Nat.pow_le_pow_right (by decide) (by omega)
    have h2 : ((2 ^ l.length : Nat) : Int) = 2 ^ l.length := by simp
    omega
   rw [ht25] at S A1 SM
   have HFIN := Lib.hid (And.intro S (And.intro (HS.out.2.trans (hB.mono HS.out.2.size)) (And.intro (HS.out.1.below hB) (And.intro (A1.mono (M' := 35184372088832) (N' := 25) (by omega) (by omega)) SM))))
   clear S hB A1 SM ht25 hpow2
   obtain ⟨S, kwr, S3, A2, SM⟩ := HFIN.out
   obtain ⟨sv, hsv⟩ : ∃ sv, runV c ⟨[], fun _ => [], ct⟩ (l.take 25) = sv := ⟨_, rfl⟩
   rw [hsv] at S A2 SM
   rw [HZ.out.2] at SM
   obtain ⟨K2, F2, cs2⟩ := sv
   obtain ⟨e1, e2, hle⟩ := SM
   dsimp only at S A2 e1 e2 hle
   subst e1
   subst e2
   have A := HA.out
   have r0 := cell_of_heap ((kwr.block _ ly).trans HX.out.1.2) 0 _ rfl
   have r1 := cell_of_heap ((kwr.block _ ly).trans HX.out.1.2) 1 _ rfl
   have r2 := cell_of_heap ((kwr.block _ ly).trans HX.out.1.2) 2 _ rfl
   have h3 : a0 % 3 < 3 := Nat.mod_lt _ (by decide)
   have hsh : ((a0 : Int) / 256) = ((a0 / 256 : Nat) : Int) := by simp
   have HPR := Lib.hid (gprefix_any S3.r R A.keys (by have := A.few; omega) a1 a2 (a0 / 256) ha1 ha2 (by omega))
   have hL := preL_le c a1
   have hpk := prefix_lt c hL (preK_lt c A.keys a2 (a0 / 256))
   obtain ⟨h, hh⟩ : ∃ h, a0 % 3 = h := ⟨_, rfl⟩
   rw [hh] at h3
   have hm3 : (a0 : Int) % 3 = (h : Int) := by rw [← hh]; simp
   have hmid := A.mid (by decide) (by decide) h3
   obtain ⟨L, hLe⟩ : ∃ L, preL c a1 = L := ⟨_, rfl⟩
   rw [hLe] at hL hpk HPR
   obtain ⟨p, hpe⟩ : ∃ p, preK c K a2 (a0 / 256) / 2 ^ L = p := ⟨_, rfl⟩
   rw [hpe] at hpk HPR
   obtain ⟨q8, hq8⟩ : ∃ q8, a0 / 256 = q8 := ⟨_, rfl⟩
   rw [hq8] at hsh HPR
   have hkl := R.keys_le' L
   have ht1 := A.told_bd (by decide) h3 L p hL
   have ht2 := A2.told_bd (c := c.lin) (by decide) h3 L p hL
   have hlo : massI L p K (F h) ≤ c.lvTold L p (cs (h + 1) L) := A.low R (.inr HM.out) h3 (A.cons HM.out h h3).2 L p hL hpk
   have hhi : c.lvTold L p (cs (h + 1) L) ≤ c.lin.lvTold L p (cs2 (h + 1) L) := (hle h h3).told c.lin rfl rfl rfl rfl rfl R HM.out L p hL hpk
   have hmb := mass_bd (A.fb h h3) (by rw [A.len h h3]; exact A.few) K L p
   have HMS := Lib.hid fun (X : World) (S : Brd B0 X bd ag mb 3 sd lb lcap vs c K F cs kvW fvW) => gmass_any S.r h L p h3 hmid (fun k hk => by have := A.keys k hk; have := R.keys_le' 0; omega) (by omega)
   have HPT := Lib.hid fun (X : World) (S : Brd B0 X bd ag mb 3 sd lb lcap vs c K F cs kvW fvW) => gpoint_any S R (by decide) h (by omega) L p hL hpk (by omega)
   have HPV := Lib.hid fun (X : World) (S : Brd w3.heap.size X bd2 ag2 mb2 3 sd2 lb2 lcap2 vs2 c.lin K F cs2 kv fv) => gpoint_any S R.lin (by decide) h (by omega) L p hL hpk (by omega)
   obtain ⟨mv, hmv⟩ : ∃ mv, massI L p K (F h) = mv := ⟨_, rfl⟩
   obtain ⟨tv, htv⟩ : ∃ tv, c.lvTold L p (cs (h + 1) L) = tv := ⟨_, rfl⟩
   obtain ⟨uv, huv⟩ : ∃ uv, c.lin.lvTold L p (cs2 (h + 1) L) = uv := ⟨_, rfl⟩
   rw [hmv] at HMS hlo hmb
   rw [htv] at HPT hlo hhi ht1
   rw [huv] at HPV hhi ht2
   have f1 : decide (mv ≤ tv) = true := decide_eq_true hlo
   have f2 : decide (tv ≤ uv) = true := decide_eq_true hhi
   have HFV := Lib.hid (And.intro S (And.intro kwr S3))
   clear S kwr S3 A2 A hle hmid hmv htv huv hlo hhi hsv hh hLe hpe hq8
   go_wp2_with fail
   refine HPR.out.mono ?_
   rintro e wp ⟨rfl, hbp⟩
   have Sp := HFV.out.1.below hbp
   have S3p := HFV.out.2.2.below hbp
   have kp := HFV.out.2.1.trans (hbp.mono HFV.out.2.1.size)
   have ka : Below wp.heap.size wp (wp.alloc (Obj.cells #[Value.int IntKind.i64 L, Value.int IntKind.u64 (p : Int)] 55)) := (Below.refl _ _).alloc (Nat.le_refl _) _
   have xa : (wp.alloc (Obj.cells #[Value.int IntKind.i64 L, Value.int IntKind.u64 (p : Int)] 55)).heap[wp.heap.size]? = some (Obj.cells #[Value.int IntKind.i64 L, Value.int IntKind.u64 (p : Int)] 55 (0, 0)) := heap_alloc_at _ rfl
   obtain ⟨Xa, hXa⟩ : ∃ Xa, wp.alloc (Obj.cells #[Value.int IntKind.i64 L, Value.int IntKind.u64 (p : Int)] 55) = Xa := ⟨_, rfl⟩
   rw [hXa] at ka xa
   have Sa := Sp.below ka
   have S3a := S3p.below ka
   have kA := kp.trans (ka.mono kp.size)
   have p0 := cell_of_heap xa 0 _ rfl
   have p1 := cell_of_heap xa 1 _ rfl
   have lxa := lt_of_block xa
   have HSa := Lib.hid (And.intro Sa (And.intro kA S3a))
   clear Sp S3p kp ka Sa S3a kA hbp xa r0 r1 r2
   go_wp2_with fail
   clear hXa
   refine (HPT.out _ HSa.out.2.2).mono ?_
   rintro e wb ⟨rfl, hbb⟩
   have Sb := HSa.out.1.below hbb
   have S3b := HSa.out.2.2.below hbb
   have kB := HSa.out.2.1.trans (hbb.mono HSa.out.2.1.size)
   replace p0 := (hbb.cell (p := ⟨wp.heap.size, 0, none⟩) lxa).trans p0
   replace p1 := (hbb.cell (p := ⟨wp.heap.size, 1, none⟩) lxa).trans p1
   replace lxa := Nat.lt_of_lt_of_le lxa hbb.size
   have HSb := Lib.hid (And.intro Sb (And.intro kB S3b))
   clear Sb S3b kB hbb
   go_wp2_with fail
   refine (HPV.out _ HSb.out.1).mono ?_
   rintro e wc ⟨rfl, hbc⟩
   have S3c := HSb.out.2.2.below hbc
   have kC := HSb.out.2.1.trans (hbc.mono HSb.out.2.1.size)
   replace p0 := (hbc.cell (p := ⟨wp.heap.size, 0, none⟩) lxa).trans p0
   replace p1 := (hbc.cell (p := ⟨wp.heap.size, 1, none⟩) lxa).trans p1
   replace lxa := Nat.lt_of_lt_of_le lxa hbc.size
   have z0 := cell_of_heap S3c.r.hd 0 _ rfl
   have HL1 := Lib.hid (show Calls Tryz.prog 13 #[.pointer (some ⟨ag, 0, none⟩), .string ⟨#[115, 117, 98, 116, 114, 97, 99, 116, 32, 49, 32, 50]⟩] wc fun e w' => e = .returned (.tuple #[.string ⟨#[101, 114, 114, 111, 114, 32, 51]⟩, .bool true]) ∧ Below wc.heap.size wc w' from ln_subno S3c.a R (by decide) 1 2 (by decide) (by decide) (by decide) (by decide) HM.out _ (by simp only [lnB, List.flatMap_cons, List.flatMap_nil]; rw [show (((1 : Nat) : Int)) = ((1 : Nat) : Int) from rfl, itoa_small 1 (by decide), itoa_small 2 (by decide)]; rfl))
   have HSc := Lib.hid (And.intro kC S3c)
   clear S3c kC hbc
   go_wp2_with fail
   refine HL1.out.mono ?_
   rintro e wd ⟨rfl, hbd⟩
   have S3d := HSc.out.2.below hbd
   have kD := HSc.out.1.trans (hbd.mono HSc.out.1.size)
   replace p0 := (hbd.cell (p := ⟨wp.heap.size, 0, none⟩) lxa).trans p0
   replace p1 := (hbd.cell (p := ⟨wp.heap.size, 1, none⟩) lxa).trans p1
   replace lxa := Nat.lt_of_lt_of_le lxa hbd.size
   have z1 := cell_of_heap S3d.r.hd 0 _ rfl
   have HL2 := Lib.hid (show Calls Tryz.prog 13 #[.pointer (some ⟨ag, 0, none⟩), .string ⟨#[97, 100, 100, 32, 49, 32, 48, 32, 45, 49]⟩] wd fun e w' => e = .returned (.tuple #[.string ⟨#[101, 114, 114, 111, 114, 32, 51]⟩, .bool true]) ∧ Below wd.heap.size wd w' from ln_addno S3d.a R (by decide) 1 0 (-1) (by decide) (by decide) Nat.one_le_two_pow (by decide) (by decide) HM.out _ (by simp only [lnB, List.flatMap_cons, List.flatMap_nil]; rw [itoa_small 1 (by decide), show (((0 : Nat) : Int)) = ((0 : Nat) : Int) from rfl, itoa_small 0 (by decide), itoa_m1]; rfl))
   have HSd := Lib.hid (And.intro kD S3d)
   clear S3d kD hbd z0
   go_wp2_with fail
   refine HL2.out.mono ?_
   rintro e we ⟨rfl, hbe⟩
   have S3e := HSd.out.2.below hbe
   have kE := HSd.out.1.trans (hbe.mono HSd.out.1.size)
   replace p0 := (hbe.cell (p := ⟨wp.heap.size, 0, none⟩) lxa).trans p0
   replace p1 := (hbe.cell (p := ⟨wp.heap.size, 1, none⟩) lxa).trans p1
   have HSe := Lib.hid (And.intro kE S3e)
   clear S3e kE hbe z1
   go_wp2_with fail
   refine (HMS.out _ HSe.out.2).mono ?_
   rintro e wf ⟨rfl, hbf⟩
   have HF := Lib.hid (HX.out.2.1.trans ((HSe.out.1.trans (hbf.mono HSe.out.1.size)).mono HX.out.2.1.size))
   clear hbf p0 p1
   go_wp2_with fail
   go_ret
   exact ⟨rfl, HF.out⟩
end Go.Proofs.YtbhppbeepmllaaaGreatDoor
