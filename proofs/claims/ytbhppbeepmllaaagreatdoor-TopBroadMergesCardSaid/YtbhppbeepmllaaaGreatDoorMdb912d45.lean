import Derived.Test.YtbhppbeepmllaaaGreatDoorMfe270317
import Derived.Test.YtbhppbeepmllaaaGreatDoorWQAca5ecdff
import Derived.Test.YtbhppbeepmllaaaGreatDoorM533a8c6b
set_option linter.unusedVariables false
set_option linter.unusedSimpArgs false
set_option maxRecDepth 100000
set_option maxHeartbeats 2000000
namespace Go.Proofs.YtbhppbeepmllaaaGreatDoor
open Go.RowKit

theorem merges_lin (c : Cfg) (R : c.Ok) (m0 : Int) (hmode : (bits BinOp.and IntKind.i64 m0 1 == 1) = false) (hm : c.m = 1) (a0 : Int) (ha0 : -9223372036854775808 ≤ a0 ∧ a0 ≤ 9223372036854775807) (v : Value) (l : List Opr) (hll : l.length ≤ 9223372036854775807) (w : World) (ht : Tab w) (hv : OpsAt w w.heap.size v l) :
  Calls Tryz.prog 6 #[.agg #[.int .i64 c.b, .int .i64 c.r, .int .i64 c.wd, .int .i64 m0, .int .u64 c.s], v, .int .i64 a0] w fun e w' => e = .returned (.bool true) ∧ Below w.heap.size w w' := by
 obtain ⟨so, cap, hv1, _⟩ := id hv
 subst hv1
 have kb : Below w.heap.size w (w.alloc (.cells #[.int .i64 c.b, .int .i64 c.r, .int .i64 c.wd, .int .i64 m0, .int .u64 c.s] 24)) := (Below.refl _ _).alloc (Nat.le_refl _) _
 have x0 : (w.alloc (.cells #[.int .i64 c.b, .int .i64 c.r, .int .i64 c.wd, .int .i64 m0, .int .u64 c.s] 24)).heap[w.heap.size]? = some (Obj.cells #[.int .i64 c.b, .int .i64 c.r, .int .i64 c.wd, .int .i64 m0, .int .u64 c.s] 24 (0, 0)) := heap_alloc_at _ rfl
 have htw := ht.below kb ht.lt
 have hv2 := hv.below kb
 obtain ⟨W, hW⟩ : ∃ W, (w.alloc (.cells #[.int .i64 c.b, .int .i64 c.r, .int .i64 c.wd, .int .i64 m0, .int .u64 c.s] 24)) = W := ⟨_, rfl⟩
 rw [hW] at x0 kb htw hv2
 have lx := lt_of_block x0
 have HX := Lib.hid (And.intro x0 (And.intro kb (And.intro htw hv2)))
 have hb1 := R.b1
 have hb2 := R.b2
 have HWK := Lib.hid (works_any W htw)
 have HRT := Lib.hid fun w => (show Calls Tryz.prog 11 #[.agg #[.int .i64 c.b, .int .i64 c.r, .int .i64 c.wd, .int .i64 m0, .int .u64 c.s]] w fun e w' => e = .returned (.bool true) ∧ Below w.heap.size w w' by
  have h := topright c.b c.r c.wd m0 c.s w
  rw [decide_eq_true (show rightP c.b c.r c.wd 1 from R.right1)] at h
  exact h)
 have e2 : ((c.m : Nat) : Int) = 1 := by rw [hm]; rfl
 have HAC := Lib.hid fun (w1 : World) (hb : Below W.heap.size W w1) => (show Calls Tryz.prog 12 #[.agg #[.int .i64 c.b, .int .i64 c.r, .int .i64 c.wd, .int .i64 m0, .int .u64 c.s], .int .i64 1, .slice so l.length cap] w1 fun e w' => ∃ bd, e = .returned (.pointer (some ⟨bd, 0, none⟩)) ∧ ActOut c w1 l bd w' by
  have h := gacted_any c R R.s2 m0 (.slice so l.length cap) l hll w1 (htw.below hb htw.lt) ((hv2.below (hb.mono kb.size)).mono (Nat.le_trans kb.size hb.size))
  rw [e2] at h
  exact h)
 have HBN := Lib.hid fun (w1 : World) (ht1 : Tab w1) => (show Calls Tryz.prog 36 #[.agg #[.int .i64 c.b, .int .i64 c.r, .int .i64 c.wd, .int .i64 m0, .int .u64 c.s], .int .i64 1] w1 fun e w' => ∃ bd, e = .returned (.pointer (some ⟨bd, 0, none⟩)) ∧ BroadNew c w1 bd w' by
  have h := gbroad_any c R R.s2 m0 w1 ht1
  rw [e2] at h
  exact h)
 have HM := Lib.hid hm
 have h3 := handN_lt a0
 have EH := handN_int a0
 obtain ⟨h, hh⟩ : ∃ h, handN a0 = h := ⟨_, rfl⟩
 rw [hh] at h3 EH
 have HG := Lib.hid fun w => (show Calls Tryz.prog 31 #[.int .i64 a0] w fun e w' => e = .returned (.int .i64 (h : Int)) ∧ w' = w by
  have hg := ghandle_any a0 w
  rw [← EH] at hg
  exact hg)
 clear x0 hv hv2 kb hm e2 htw ht hh EH
 go_enter Tryz.func6, Tryz.ntmps6
 go_wp2_with fail
 clear hW
 refine HWK.out.mono ?_
 rintro e w1 ⟨rfl, hb1w⟩
 have q0 := cell_of_heap ((hb1w.block _ lx).trans HX.out.1) 0 _ rfl
 have q1 := cell_of_heap ((hb1w.block _ lx).trans HX.out.1) 1 _ rfl
 have q2 := cell_of_heap ((hb1w.block _ lx).trans HX.out.1) 2 _ rfl
 have q3 := cell_of_heap ((hb1w.block _ lx).trans HX.out.1) 3 _ rfl
 have q4 := cell_of_heap ((hb1w.block _ lx).trans HX.out.1) 4 _ rfl
 go_wp2_with fail
 refine (HRT.out _).mono ?_
 rintro e w2 ⟨rfl, hb2w⟩
 have kb2 := hb1w.trans (hb2w.mono hb1w.size)
 clear hb1w hb2w q0 q1 q2 q3 q4
 have q0 := cell_of_heap ((kb2.block _ lx).trans HX.out.1) 0 _ rfl
 have q1 := cell_of_heap ((kb2.block _ lx).trans HX.out.1) 1 _ rfl
 have q2 := cell_of_heap ((kb2.block _ lx).trans HX.out.1) 2 _ rfl
 have q3 := cell_of_heap ((kb2.block _ lx).trans HX.out.1) 3 _ rfl
 have q4 := cell_of_heap ((kb2.block _ lx).trans HX.out.1) 4 _ rfl
 go_wp2_with fail
 refine (HAC.out _ kb2).mono ?_
 rintro e w3 ⟨bd, rfl, B0, ag, mb, sd, lb, lcap, vs, cs0, kv, fv, hz, hB0, S3, hb3⟩
 have kb3 := kb2.trans (hb3.mono kb2.size)
 have A := act_ok R hz l
 obtain ⟨st, hst⟩ : ∃ st, runS c ⟨[], fun _ => [], cs0⟩ (l.take 25) = st := ⟨_, rfl⟩
 rw [hst] at S3 A
 obtain ⟨K, F, cs⟩ := st
 dsimp only at S3 A
 clear hst kb2 hb3 hB0 q0 q1 q2 q3 q4 HWK HRT HAC hz
 have HA := Lib.hid A
 have q0 := cell_of_heap ((kb3.block _ lx).trans HX.out.1) 0 _ rfl
 have q1 := cell_of_heap ((kb3.block _ lx).trans HX.out.1) 1 _ rfl
 have q2 := cell_of_heap ((kb3.block _ lx).trans HX.out.1) 2 _ rfl
 have q3 := cell_of_heap ((kb3.block _ lx).trans HX.out.1) 3 _ rfl
 have q4 := cell_of_heap ((kb3.block _ lx).trans HX.out.1) 4 _ rfl
 have HBR := Lib.hid (HBN.out w3 S3.a.tab)
 obtain ⟨ko, kc, hkv⟩ := S3.r.kform
 subst hkv
 have hfew : K.length ≤ 25 := A.few
 have HS := Lib.hid (And.intro S3 kb3)
 clear S3 A HBN
 go_wp2_with fail
 refine HBR.out.mono ?_
 rintro e w4 ⟨bd2, rfl, ag2, mb2, sd2, lb2, lcap2, vs2, ct0, kv2, fv2, T4, hz2, hb4⟩
 have S4 := HS.out.1.below hb4
 have p6 := cell_of_heap S4.r.hd 6 _ rfl
 have HT4 := Lib.hid (And.intro T4 (And.intro hb4 (hz2 1 (by decide))))
 obtain ⟨n, hn⟩ : ∃ n, K.length = n := ⟨_, rfl⟩
 rw [hn] at p6 hfew
 have HN := Lib.hid hn
 clear kb3 T4 hz2 hb4 S4 q0 q1 q2 q3 q4 HBR hn
 go_wp2_with fail
 refine (HG.out _).mono ?_
 rintro e w5 ⟨rfl, rfl⟩
 go_wp2_with fail
 clear p6
 go_loopw [12, 13, 14, 15, 16, 17] (fun i _ _ _ _ _ wr => ∃ (t : Nat) (z : Int) (ct : Nat → Nat → List Int), t ≤ n ∧ i = .int .i64 z ∧ z = (t : Int) - 1 ∧ Brd w3.heap.size wr bd2 ag2 mb2 3 sd2 lb2 lcap2 vs2 c [] (fun _ => []) ct kv2 fv2 ∧ LinOk c (ct 2) K (gmF (F h) t) ∧ (∀ l, l ≤ c.b → Bd (70368744177664 * ((n : Int) - t)) (ct 2 l)) ∧ Below w3.heap.size w3 wr) (fun i _ _ _ _ _ _ => ((intOf i) + 1).toNat)
 case atStart =>
  refine ⟨n, _, ct0, Nat.le_refl _, rfl, rfl, HT4.out.1, ?_, ?_, HT4.out.2.1⟩
  ·rw [HT4.out.2.2]
   have e1 : (F h).length = n := (HA.out.len h h3).trans HN.out
   have e2 := gmF_end (F h)
   rw [e1] at e2
   have e3 := lin_zero c K
   rw [HN.out] at e3
   rw [e2]
   exact e3
  ·intro l hl x hx
   rw [HT4.out.2.2] at hx
   unfold zeroC at hx
   have := (List.mem_replicate.1 hx).2
   omega
 case round =>
  obtain ⟨t, z, ct, htn, rfl, hz, S, hL, hBd, hB⟩ := hrel
  have S3r := HS.out.1.below hB
  by_cases ht0 : 0 < t
  ·obtain ⟨j, rfl⟩ : ∃ j, t = j + 1 := ⟨t - 1, by omega⟩
   obtain rfl : z = (j : Int) := by omega
   have c0 : decide ((0 : Int) ≤ (j : Int)) = true := by simp
   have hlt : j < K.length := by rw [HN.out]; omega
   obtain ⟨g, cap2, hv, hc⟩ := S3r.r.key hlt
   cases hv
   obtain ⟨gf, capf, hvf, hcf⟩ := S3r.r.val h3 hlt
   have qF := S3r.r.cellF h3
   rw [hvf] at qF
   have p6 := cell_of_heap S3r.r.hd 6 _ rfl
   have ya := cell_of_heap S.r.hd 0 _ rfl
   have lS := lt_of_block S.r.hd
   have lS3 := lt_of_block S3r.r.hd
   have lgk : g < wr.heap.size := (S3r.r.kr.lt g rfl).2
   have lgf : gf < wr.heap.size := ((S3r.r.fr h h3).lt gf (by rw [hvf]; rfl)).2
   have hFx := ((HA.out.fb h h3).getD (by decide) j)
   have hkx : K.getD j 0 < c.keys 0 := by
    rw [List.getD_eq_getElem?_getD, List.getElem?_eq_getElem hlt]; exact HA.out.keys _ (List.getElem_mem hlt)
   have hKj : K[j]? = some (K.getD j 0) := by
    rw [List.getD_eq_getElem?_getD, List.getElem?_eq_getElem hlt]; rfl
   have hk9 := R.keys_le' 0
   obtain ⟨x, hx⟩ : ∃ x, K.getD j 0 = x := ⟨_, rfl⟩
   obtain ⟨y, hy⟩ : ∃ y, (F h).getD j 0 = y := ⟨_, rfl⟩
   rw [hx] at hc hkx hKj
   rw [hy] at hcf hFx
   obtain ⟨hd1, hd2⟩ := half_bd hFx
   obtain ⟨d, hd⟩ : ∃ d, y.tdiv 2 = d := ⟨_, rfl⟩
   rw [hd] at hd1 hd2
   have hab : d + (y - d) = (F h).getD j 0 := by rw [hy]; omega
   rw [HN.out] at p6 qF hlt
   have HT1 := Lib.hid fun w => gtext_any (x : Int) (by omega) (by omega) w
   have HT2 := Lib.hid fun w => gtext_any d (by omega) (by omega) w
   have HT3 := Lib.hid fun w => gtext_any (y - d) (by omega) (by omega) w
   have s1 := text_size (x : Int) (by omega) (by omega)
   have s2 := text_size d (by omega) (by omega)
   have s3 := text_size (y - d) (by omega) (by omega)
   obtain ⟨R1, hR1⟩ : ∃ R1, sOf (Lib.itoa (x : Int)) = R1 := ⟨_, rfl⟩
   obtain ⟨R2, hR2⟩ : ∃ R2, sOf (Lib.itoa d) = R2 := ⟨_, rfl⟩
   obtain ⟨R3, hR3⟩ : ∃ R3, sOf (Lib.itoa (y - d)) = R3 := ⟨_, rfl⟩
   rw [hR1] at HT1 s1
   rw [hR2] at HT2 s2
   rw [hR3] at HT3 s3
   have HC2 := Lib.hid (ln_add2 ⟨#[97, 100, 100, 32, 50, 32]⟩ R1 R2 (x : Int) d rfl hR1.symm hR2.symm)
   have HC3 := Lib.hid (ln_add2 ⟨#[97, 100, 100, 32, 50, 32]⟩ R1 R3 (x : Int) (y - d) rfl hR1.symm hR3.symm)
   have HST := Lib.hid (And.intro S (And.intro hB (And.intro hL (And.intro hBd (And.intro hKj hab)))))
   have HP := Lib.hid (And.intro p6 (And.intro hc (And.intro qF hcf)))
   have HXY := Lib.hid (And.intro hx (And.intro hy hvf))
   clear S hB hL hBd S3r hKj hab hvf hx hy hR1 hR2 hR3 hFx hz
   go_wp2_with fail
   refine wp_region_mixA wr.heap.size [0, 1, 2, 3, 4, 5, 6, 7, 8, 9, 10, 11, 12, 13, 14, 15, 16, 17] [18, 19, 20, 21, 22, 23] (by kernel_rfl) (by kernel_rfl) rfl ?_
   simp only [opsAt, List.map_cons, List.map_nil, List.getElem?_toArray, List.getElem?_cons_zero, List.getElem?_cons_succ, Option.getD_some]
   have za := fun k : After wr.heap.size wr => k.cell lS ya
   have zb := fun k : After wr.heap.size wr => k.cell lS3 p6
   have zc := fun k : After wr.heap.size wr => k.cell lgk hc
   repeat (go_big_quiet_step (((go_at_call 14; first | exact after_of (Nat.le_refl _) _ (HT1.out _) | exact after_of (Nat.le_refl _) _ (HT2.out _)))))
   refine wpQuiet_nil ?_
   intro kk
   unfold calmQ
   have kb := kk.h
   clear za zb zc
   obtain ⟨W6, hw1⟩ : ∃ W6, kk.w = W6 := ⟨_, rfl⟩
   rw [hw1] at kb
   rw [hw1]
   clear hw1 kk
   have S6 := HST.out.1.below kb
   have hB6 := HST.out.2.1.trans (kb.mono HST.out.2.1.size)
   have HL := Lib.hid (show Calls Tryz.prog 13 #[.pointer (some ⟨ag2, 0, none⟩), .string (⟨#[97, 100, 100, 32, 50, 32]⟩ ++ R1 ++ ⟨#[32]⟩ ++ R2)] W6 fun e w' => e = .returned (.tuple #[.string ⟨#[100, 111, 110, 101]⟩, .bool true]) ∧ _ ∧ _ from ln_add S6.a R (by decide) 2 x d (70368744177664 * ((n : Int) - (j + 1 : Nat))) 35184372088832 (by decide) (by decide) hkx hd1 (by decide) (by omega) (by omega) (fun h => by have := HM.out; omega) HST.out.2.2.2.1 _ HC2.out)
   have HS6 := Lib.hid (And.intro S6 hB6)
   clear S6 hB6 kb ya p6 hc qF hcf
   go_wp2_with fail
   refine HL.out.mono ?_
   rintro e W7 ⟨rfl, A7, u7⟩
   have S7 := HS6.out.1.line A7 u7
   have hB7 := HS6.out.1.lowU HS6.out.2 u7
   have S37 := HS.out.1.below hB7
   obtain ⟨g2, cap2, hv2, hc7⟩ := S37.r.key (i := j) (by rw [HN.out]; omega)
   cases hv2
   obtain ⟨gf2, capf2, hvf2, hcf7⟩ := S37.r.val h3 (i := j) (by rw [HN.out]; omega)
   have qF7 := S37.r.cellF h3
   rw [HXY.out.2.2] at hvf2 qF7
   cases hvf2
   have p67 := cell_of_heap S37.r.hd 6 _ rfl
   have ya7 := cell_of_heap S7.r.hd 0 _ rfl
   have lS7 := lt_of_block S7.r.hd
   have lS37 := lt_of_block S37.r.hd
   have lgk7 : g < W7.heap.size := (S37.r.kr.lt g rfl).2
   have lgf7 : gf < W7.heap.size := ((S37.r.fr h h3).lt gf (by rw [HXY.out.2.2]; rfl)).2
   rw [HXY.out.1] at hc7
   rw [HXY.out.2.1] at hcf7
   rw [HN.out] at p67 qF7
   obtain ⟨c1, hc1⟩ : ∃ c1 : Nat → Nat → List Int, (fun k => if k = 2 then stFed c x d (ct 2) else ct k) = c1 := ⟨_, rfl⟩
   rw [hc1] at A7 S7
   have hc12 : c1 2 = stFed c x d (ct 2) := by rw [← hc1]; rfl
   have hbd1 := bd_fed HST.out.2.2.2.1 (by omega) hd1 (by decide) x
   rw [← hc12] at hbd1
   have HS7 := Lib.hid (And.intro S7 (And.intro hB7 (And.intro hbd1 hc12)))
   clear S7 hB7 A7 u7 S37 hc1 hc12 hbd1 HL HS6
   go_wp2_with fail
   refine wp_region_mixA W7.heap.size [0, 1, 2, 3, 4, 5, 6, 7, 8, 9, 10, 11, 12, 13, 14, 15, 16, 17, 18, 19, 20, 21, 22, 23, 24, 25, 26, 27] [28, 29, 30, 31, 32, 33] (by kernel_rfl) (by kernel_rfl) rfl ?_
   simp only [opsAt, List.map_cons, List.map_nil, List.getElem?_toArray, List.getElem?_cons_zero, List.getElem?_cons_succ, Option.getD_some]
   have za := fun k : After W7.heap.size W7 => k.cell lS7 ya7
   have zb := fun k : After W7.heap.size W7 => k.cell lS37 p67
   have zc := fun k : After W7.heap.size W7 => k.cell lgk7 hc7
   have zd := fun k : After W7.heap.size W7 => k.cell lS37 qF7
   have ze := fun k : After W7.heap.size W7 => k.cell lgf7 hcf7
   repeat (go_big_quiet_step (((go_at_call 14; first | exact after_of (Nat.le_refl _) _ (HT1.out _) | exact after_of (Nat.le_refl _) _ (HT3.out _)))))
   refine wpQuiet_nil ?_
   intro kk
   unfold calmQ
   have kb := kk.h
   clear za zb zc zd ze
   obtain ⟨W8, hw1⟩ : ∃ W8, kk.w = W8 := ⟨_, rfl⟩
   rw [hw1] at kb
   rw [hw1]
   clear hw1 kk
   have S8 := HS7.out.1.below kb
   have hB8 := HS7.out.2.1.trans (kb.mono HS7.out.2.1.size)
   have HL := Lib.hid (show Calls Tryz.prog 13 #[.pointer (some ⟨ag2, 0, none⟩), .string (⟨#[97, 100, 100, 32, 50, 32]⟩ ++ R1 ++ ⟨#[32]⟩ ++ R3)] W8 fun e w' => e = .returned (.tuple #[.string ⟨#[100, 111, 110, 101]⟩, .bool true]) ∧ _ ∧ _ from ln_add S8.a R (by decide) 2 x (y - d) (70368744177664 * ((n : Int) - (j + 1 : Nat)) + 35184372088832) 35184372088832 (by decide) (by decide) hkx hd2 (by decide) (by omega) (by omega) (fun h => by have := HM.out; omega) HS7.out.2.2.1 _ HC3.out)
   have HS8 := Lib.hid (And.intro S8 hB8)
   clear S8 hB8 kb ya7 p67 hc7 qF7 hcf7
   go_wp2_with fail
   refine HL.out.mono ?_
   rintro e W9 ⟨rfl, A9, u9⟩
   have S9 := HS8.out.1.line A9 u9
   have hB9 := HS8.out.1.lowU HS8.out.2 u9
   obtain ⟨c2, hc2⟩ : ∃ c2 : Nat → Nat → List Int, (fun k => if k = 2 then stFed c x (y - d) (c1 2) else c1 k) = c2 := ⟨_, rfl⟩
   rw [hc2] at A9 S9
   have hc22 : c2 2 = stFed c x (y - d) (c1 2) := by rw [← hc2]; rfl
   have hbd2 := bd_fed HS7.out.2.2.1 (by omega) hd2 (by decide) x
   have hln := lin_two HST.out.2.2.1 (by have := HM.out; omega) (HA.out.len h h3) HST.out.2.2.2.2.1 HST.out.2.2.2.2.2
   rw [← HS7.out.2.2.2, ← hc22] at hln
   rw [← hc22] at hbd2
   have HR : ∃ (t : Nat) (z : Int) (ct : Nat → Nat → List Int), t ≤ n ∧ Value.int IntKind.i64 ((j : Int) - 1) = .int .i64 z ∧ z = (t : Int) - 1 ∧ Brd w3.heap.size W9 bd2 ag2 mb2 3 sd2 lb2 lcap2 vs2 c [] (fun _ => []) ct kv2 fv2 ∧ LinOk c (ct 2) K (gmF (F h) t) ∧ (∀ l, l ≤ c.b → Bd (70368744177664 * ((n : Int) - t)) (ct 2 l)) ∧ Below w3.heap.size w3 W9 := ⟨j, _, c2, by omega, rfl, rfl, S9, hln, fun l hl => (hbd2 l hl).mono (by omega), hB9⟩
   have HR := Lib.hid HR
   clear S9 hB9 A9 u9 hc2 hc22 hbd2 hln HL HS8
   go_wp2_with fail
   go_roundw
   case rel =>
    have HR := HR.out
    first | exact HR | ((repeat apply Exists.intro); exact ⟨HR, rfl⟩)
   case measure => simp only [intOf]; omega
  ·obtain rfl : t = 0 := by omega
   obtain rfl : z = -1 := by omega
   have c0 : decide ((0 : Int) ≤ -1) = false := by decide
   rw [gmF_zero] at hL
   have hsame := lin_same hL (HA.out.lin (by have := HM.out; omega) h h3)
   have hlen := HA.out.clen h3
   have hsm : ∀ l, l ≤ c.b → Small (cs (h + 1) l) := fun l hl x hx => by have := HA.out.cb h h3 l hl x hx; omega
   have hsm2 : ∀ l, l ≤ c.b → Small (ct 2 l) := fun l hl => by rw [hsame l hl]; exact hsm l hl
   have hlen2 : ∀ l, l ≤ c.b → (ct 2 l).length = c.size l := fun l hl => by rw [hsame l hl]; exact hlen l hl
   have hel := encB_len c R (cs (h + 1)) hsm hlen
   have hxl := export_long c (cs (h + 1))
   have hxs : (sOf ([98, 121, 116, 101, 115, 32] ++ hexL (encU c (cs (h + 1))))).size ≤ 2000000 := by
    rw [sOf_size, List.length_append, hexL_len]
    simp only [encU, List.length_map, List.length_cons, List.length_nil]
    omega
   have HE1 := Lib.hid fun (X : World) (S : Brd B0 X bd ag mb 3 sd lb lcap vs c K F cs (.slice ko K.length kc) fv) => ln_export S.a R (by decide) (h + 1) (by omega) (by omega) hsm hlen
   have HE2 := Lib.hid fun (X : World) (S : Brd w3.heap.size X bd2 ag2 mb2 3 sd2 lb2 lcap2 vs2 c [] (fun _ => []) ct kv2 fv2) => ln_export S.a R (by decide) 2 (by decide) (by decide) hsm2 hlen2 _ ln_exp2
   rw [encU_same hsame] at HE2
   obtain ⟨X, hX⟩ : ∃ X, sOf ([98, 121, 116, 101, 115, 32] ++ hexL (encU c (cs (h + 1)))) = X := ⟨_, rfl⟩
   rw [hX] at HE1 HE2 hxl hxs
   have HT1 := Lib.hid fun w => gtext_any ((h : Int) + 1) (by omega) (by omega) w
   have s1 := text_size ((h : Int) + 1) (by omega) (by omega)
   obtain ⟨R1, hR1⟩ : ∃ R1, sOf (Lib.itoa ((h : Int) + 1)) = R1 := ⟨_, rfl⟩
   rw [hR1] at HT1 s1
   have HC := Lib.hid (ln_exp ⟨#[101, 120, 112, 111, 114, 116, 32]⟩ R1 ((h : Int) + 1) rfl hR1.symm)
   have hBw := HS.out.2.trans (hB.mono HS.out.2.size)
   have HSr := Lib.hid (And.intro S3r (And.intro S hBw))
   have lS3 := lt_of_block S3r.r.hd
   have ya := cell_of_heap S3r.r.hd 0 _ rfl
   have z0 := fun k : After wr.heap.size wr => k.cell (b := bd) (o := 0) lS3 ya
   have HL := Lib.hid fun (k : After wr.heap.size wr) => (show Calls Tryz.prog 13 #[.pointer (some ⟨ag, 0, none⟩), .string (⟨#[101, 120, 112, 111, 114, 116, 32]⟩ ++ R1)] k.w fun e w' => e = .returned (.tuple #[.string X, .bool true]) ∧ Below k.w.heap.size k.w w' from HE1.out k.w (HSr.out.1.below k.h) _ HC.out)
   have fX1 : decide ((20 : Int) < (X.size : Int)) = true := decide_eq_true (by omega)
   clear S3r S hL hBd hB hBw hsame hlen hsm hsm2 hlen2 hel hX hR1 hz ya
   go_wp2_with fail
   refine wp_region_after wr.heap.size (by kernel_rfl) (by kernel_rfl) ?_
   repeat (go_big_quiet_step ((first | (go_at_call 14; exact after_of (Nat.le_refl _) _ (HT1.out _)) | (go_at_call 13; exact after_of (Nat.le_refl _) _ (HL.out _)))))
   refine wpQuiet_nil ?_
   intro k
   have kB := k.h
   obtain ⟨w8, hw8⟩ : ∃ w8, k.w = w8 := ⟨_, rfl⟩
   rw [hw8] at kB
   rw [hw8]
   clear hw8 k z0 HL
   have S8 := HSr.out.2.1.below kB
   have kb8 := HSr.out.2.2.trans (kB.mono HSr.out.2.2.size)
   have yb := cell_of_heap S8.r.hd 0 _ rfl
   have HS8 := Lib.hid (And.intro S8 kb8)
   clear S8 kb8 kB
   go_wp2_with fail
   refine (HE2.out _ HS8.out.1).mono ?_
   rintro e w9 ⟨rfl, hb9⟩
   have HF := Lib.hid (HX.out.2.1.trans ((HS8.out.2.trans (hb9.mono HS8.out.2.size)).mono HX.out.2.1.size))
   clear hb9 yb
   go_wp2_with fail
   go_ret
   exact ⟨rfl, HF.out⟩
theorem merges_exp (c : Cfg) (R : c.Ok) (m0 : Int) (hmode : (bits BinOp.and IntKind.i64 m0 1 == 1) = true) (hm : c.m = 3) (a0 : Int) (ha0 : -9223372036854775808 ≤ a0 ∧ a0 ≤ 9223372036854775807) (v : Value) (l : List Opr) (hll : l.length ≤ 9223372036854775807) (w : World) (ht : Tab w) (hv : OpsAt w w.heap.size v l) :
  Calls Tryz.prog 6 #[.agg #[.int .i64 c.b, .int .i64 c.r, .int .i64 c.wd, .int .i64 m0, .int .u64 c.s], v, .int .i64 a0] w fun e w' => e = .returned (.bool true) ∧ Below w.heap.size w w' := by
 obtain ⟨so, cap, hv1, _⟩ := id hv
 subst hv1
 have kb : Below w.heap.size w (w.alloc (.cells #[.int .i64 c.b, .int .i64 c.r, .int .i64 c.wd, .int .i64 m0, .int .u64 c.s] 24)) := (Below.refl _ _).alloc (Nat.le_refl _) _
 have x0 : (w.alloc (.cells #[.int .i64 c.b, .int .i64 c.r, .int .i64 c.wd, .int .i64 m0, .int .u64 c.s] 24)).heap[w.heap.size]? = some (Obj.cells #[.int .i64 c.b, .int .i64 c.r, .int .i64 c.wd, .int .i64 m0, .int .u64 c.s] 24 (0, 0)) := heap_alloc_at _ rfl
 have htw := ht.below kb ht.lt
 have hv2 := hv.below kb
 obtain ⟨W, hW⟩ : ∃ W, (w.alloc (.cells #[.int .i64 c.b, .int .i64 c.r, .int .i64 c.wd, .int .i64 m0, .int .u64 c.s] 24)) = W := ⟨_, rfl⟩
 rw [hW] at x0 kb htw hv2
 have lx := lt_of_block x0
 have HX := Lib.hid (And.intro x0 (And.intro kb (And.intro htw hv2)))
 have hb1 := R.b1
 have hb2 := R.b2
 have HWK := Lib.hid (works_any W htw)
 have HRT := Lib.hid fun w => (show Calls Tryz.prog 11 #[.agg #[.int .i64 c.b, .int .i64 c.r, .int .i64 c.wd, .int .i64 m0, .int .u64 c.s]] w fun e w' => e = .returned (.bool true) ∧ Below w.heap.size w w' by
  have h := topright c.b c.r c.wd m0 c.s w
  rw [decide_eq_true (show rightP c.b c.r c.wd 1 from R.right1)] at h
  exact h)
 have e2 : ((c.m : Nat) : Int) = 3 := by rw [hm]; rfl
 have HAC := Lib.hid fun (w1 : World) (hb : Below W.heap.size W w1) => (show Calls Tryz.prog 12 #[.agg #[.int .i64 c.b, .int .i64 c.r, .int .i64 c.wd, .int .i64 m0, .int .u64 c.s], .int .i64 3, .slice so l.length cap] w1 fun e w' => ∃ bd, e = .returned (.pointer (some ⟨bd, 0, none⟩)) ∧ ActOut c w1 l bd w' by
  have h := gacted_any c R R.s2 m0 (.slice so l.length cap) l hll w1 (htw.below hb htw.lt) ((hv2.below (hb.mono kb.size)).mono (Nat.le_trans kb.size hb.size))
  rw [e2] at h
  exact h)
 have HBN := Lib.hid fun (w1 : World) (ht1 : Tab w1) => (show Calls Tryz.prog 36 #[.agg #[.int .i64 c.b, .int .i64 c.r, .int .i64 c.wd, .int .i64 m0, .int .u64 c.s], .int .i64 3] w1 fun e w' => ∃ bd, e = .returned (.pointer (some ⟨bd, 0, none⟩)) ∧ BroadNew c w1 bd w' by
  have h := gbroad_any c R R.s2 m0 w1 ht1
  rw [e2] at h
  exact h)
 have HM := Lib.hid hm
 have h3 := handN_lt a0
 have EH := handN_int a0
 obtain ⟨h, hh⟩ : ∃ h, handN a0 = h := ⟨_, rfl⟩
 rw [hh] at h3 EH
 have HG := Lib.hid fun w => (show Calls Tryz.prog 31 #[.int .i64 a0] w fun e w' => e = .returned (.int .i64 (h : Int)) ∧ w' = w by
  have hg := ghandle_any a0 w
  rw [← EH] at hg
  exact hg)
 clear x0 hv hv2 kb hm e2 htw ht hh EH
 go_enter Tryz.func6, Tryz.ntmps6
 go_wp2_with fail
 clear hW
 refine HWK.out.mono ?_
 rintro e w1 ⟨rfl, hb1w⟩
 have q0 := cell_of_heap ((hb1w.block _ lx).trans HX.out.1) 0 _ rfl
 have q1 := cell_of_heap ((hb1w.block _ lx).trans HX.out.1) 1 _ rfl
 have q2 := cell_of_heap ((hb1w.block _ lx).trans HX.out.1) 2 _ rfl
 have q3 := cell_of_heap ((hb1w.block _ lx).trans HX.out.1) 3 _ rfl
 have q4 := cell_of_heap ((hb1w.block _ lx).trans HX.out.1) 4 _ rfl
 go_wp2_with fail
 refine (HRT.out _).mono ?_
 rintro e w2 ⟨rfl, hb2w⟩
 have kb2 := hb1w.trans (hb2w.mono hb1w.size)
 clear hb1w hb2w q0 q1 q2 q3 q4
 have q0 := cell_of_heap ((kb2.block _ lx).trans HX.out.1) 0 _ rfl
 have q1 := cell_of_heap ((kb2.block _ lx).trans HX.out.1) 1 _ rfl
 have q2 := cell_of_heap ((kb2.block _ lx).trans HX.out.1) 2 _ rfl
 have q3 := cell_of_heap ((kb2.block _ lx).trans HX.out.1) 3 _ rfl
 have q4 := cell_of_heap ((kb2.block _ lx).trans HX.out.1) 4 _ rfl
 go_wp2_with fail
 refine (HAC.out _ kb2).mono ?_
 rintro e w3 ⟨bd, rfl, B0, ag, mb, sd, lb, lcap, vs, cs0, kv, fv, hz, hB0, S3, hb3⟩
 have kb3 := kb2.trans (hb3.mono kb2.size)
 have A := act_ok R hz l
 obtain ⟨st, hst⟩ : ∃ st, runS c ⟨[], fun _ => [], cs0⟩ (l.take 25) = st := ⟨_, rfl⟩
 rw [hst] at S3 A
 obtain ⟨K, F, cs⟩ := st
 dsimp only at S3 A
 clear hst kb2 hb3 hB0 q0 q1 q2 q3 q4 HWK HRT HAC hz
 have HA := Lib.hid A
 have q0 := cell_of_heap ((kb3.block _ lx).trans HX.out.1) 0 _ rfl
 have q1 := cell_of_heap ((kb3.block _ lx).trans HX.out.1) 1 _ rfl
 have q2 := cell_of_heap ((kb3.block _ lx).trans HX.out.1) 2 _ rfl
 have q3 := cell_of_heap ((kb3.block _ lx).trans HX.out.1) 3 _ rfl
 have q4 := cell_of_heap ((kb3.block _ lx).trans HX.out.1) 4 _ rfl
 have HBR := Lib.hid (HBN.out w3 S3.a.tab)
 obtain ⟨ko, kc, hkv⟩ := S3.r.kform
 subst hkv
 have hfew : K.length ≤ 25 := A.few
 have HS := Lib.hid (And.intro S3 kb3)
 clear S3 A HBN
 go_wp2_with fail
 refine HBR.out.mono ?_
 rintro e w4 ⟨bd2, rfl, ag2, mb2, sd2, lb2, lcap2, vs2, ct0, kv2, fv2, T4, hz2, hb4⟩
 have S4 := HS.out.1.below hb4
 have p6 := cell_of_heap S4.r.hd 6 _ rfl
 have HT4 := Lib.hid (And.intro T4 (And.intro hb4 (hz2 1 (by decide))))
 obtain ⟨n, hn⟩ : ∃ n, K.length = n := ⟨_, rfl⟩
 rw [hn] at p6 hfew
 have HN := Lib.hid hn
 clear kb3 T4 hz2 hb4 S4 q0 q1 q2 q3 q4 HBR hn
 go_wp2_with fail
 refine (HG.out _).mono ?_
 rintro e w5 ⟨rfl, rfl⟩
 go_wp2_with fail
 clear p6
 go_loopw [12, 13, 14, 15, 16, 17] (fun i _ _ _ _ _ wr => ∃ (t : Nat) (z : Int) (ct : Nat → Nat → List Int), t ≤ n ∧ i = .int .i64 z ∧ z = (t : Int) - 1 ∧ Brd w3.heap.size wr bd2 ag2 mb2 3 sd2 lb2 lcap2 vs2 c [] (fun _ => []) ct kv2 fv2 ∧ LinOk c (ct 2) K (gmF (F h) t) ∧ (∀ l, l ≤ c.b → Bd (70368744177664 * ((n : Int) - t)) (ct 2 l)) ∧ Below w3.heap.size w3 wr) (fun i _ _ _ _ _ _ => ((intOf i) + 1).toNat)
 case atStart =>
  refine ⟨n, _, ct0, Nat.le_refl _, rfl, rfl, HT4.out.1, ?_, ?_, HT4.out.2.1⟩
  ·rw [HT4.out.2.2]
   have e1 : (F h).length = n := (HA.out.len h h3).trans HN.out
   have e2 := gmF_end (F h)
   rw [e1] at e2
   have e3 := lin_zero c K
   rw [HN.out] at e3
   rw [e2]
   exact e3
  ·intro l hl x hx
   rw [HT4.out.2.2] at hx
   unfold zeroC at hx
   have := (List.mem_replicate.1 hx).2
   omega
 case round =>
  obtain ⟨t, z, ct, htn, rfl, hz, S, hL, hBd, hB⟩ := hrel
  have S3r := HS.out.1.below hB
  by_cases ht0 : 0 < t
  ·obtain ⟨j, rfl⟩ : ∃ j, t = j + 1 := ⟨t - 1, by omega⟩
   obtain rfl : z = (j : Int) := by omega
   have c0 : decide ((0 : Int) ≤ (j : Int)) = true := by simp
   have hlt : j < K.length := by rw [HN.out]; omega
   obtain ⟨g, cap2, hv, hc⟩ := S3r.r.key hlt
   cases hv
   obtain ⟨gf, capf, hvf, hcf⟩ := S3r.r.val h3 hlt
   have qF := S3r.r.cellF h3
   rw [hvf] at qF
   have p6 := cell_of_heap S3r.r.hd 6 _ rfl
   have ya := cell_of_heap S.r.hd 0 _ rfl
   have lS := lt_of_block S.r.hd
   have lS3 := lt_of_block S3r.r.hd
   have lgk : g < wr.heap.size := (S3r.r.kr.lt g rfl).2
   have lgf : gf < wr.heap.size := ((S3r.r.fr h h3).lt gf (by rw [hvf]; rfl)).2
   have hFx := ((HA.out.fb h h3).getD (by decide) j)
   have hkx : K.getD j 0 < c.keys 0 := by
    rw [List.getD_eq_getElem?_getD, List.getElem?_eq_getElem hlt]; exact HA.out.keys _ (List.getElem_mem hlt)
   have hKj : K[j]? = some (K.getD j 0) := by
    rw [List.getD_eq_getElem?_getD, List.getElem?_eq_getElem hlt]; rfl
   have hk9 := R.keys_le' 0
   obtain ⟨x, hx⟩ : ∃ x, K.getD j 0 = x := ⟨_, rfl⟩
   obtain ⟨y, hy⟩ : ∃ y, (F h).getD j 0 = y := ⟨_, rfl⟩
   rw [hx] at hc hkx hKj
   rw [hy] at hcf hFx
   obtain ⟨hd1, hd2⟩ := half_bd hFx
   obtain ⟨d, hd⟩ : ∃ d, y.tdiv 2 = d := ⟨_, rfl⟩
   rw [hd] at hd1 hd2
   have hab : d + (y - d) = (F h).getD j 0 := by rw [hy]; omega
   rw [HN.out] at p6 qF hlt
   have HT1 := Lib.hid fun w => gtext_any (x : Int) (by omega) (by omega) w
   have HT2 := Lib.hid fun w => gtext_any d (by omega) (by omega) w
   have HT3 := Lib.hid fun w => gtext_any (y - d) (by omega) (by omega) w
   have s1 := text_size (x : Int) (by omega) (by omega)
   have s2 := text_size d (by omega) (by omega)
   have s3 := text_size (y - d) (by omega) (by omega)
   obtain ⟨R1, hR1⟩ : ∃ R1, sOf (Lib.itoa (x : Int)) = R1 := ⟨_, rfl⟩
   obtain ⟨R2, hR2⟩ : ∃ R2, sOf (Lib.itoa d) = R2 := ⟨_, rfl⟩
   obtain ⟨R3, hR3⟩ : ∃ R3, sOf (Lib.itoa (y - d)) = R3 := ⟨_, rfl⟩
   rw [hR1] at HT1 s1
   rw [hR2] at HT2 s2
   rw [hR3] at HT3 s3
   have HC2 := Lib.hid (ln_add2 ⟨#[97, 100, 100, 32, 50, 32]⟩ R1 R2 (x : Int) d rfl hR1.symm hR2.symm)
   have HC3 := Lib.hid (ln_add2 ⟨#[97, 100, 100, 32, 50, 32]⟩ R1 R3 (x : Int) (y - d) rfl hR1.symm hR3.symm)
   have HST := Lib.hid (And.intro S (And.intro hB (And.intro hL (And.intro hBd (And.intro hKj hab)))))
   have HP := Lib.hid (And.intro p6 (And.intro hc (And.intro qF hcf)))
   have HXY := Lib.hid (And.intro hx (And.intro hy hvf))
   clear S hB hL hBd S3r hKj hab hvf hx hy hR1 hR2 hR3 hFx hz
   go_wp2_with fail
   refine wp_region_mixA wr.heap.size [0, 1, 2, 3, 4, 5, 6, 7, 8, 9, 10, 11, 12, 13, 14, 15, 16, 17] [18, 19, 20, 21, 22, 23] (by kernel_rfl) (by kernel_rfl) rfl ?_
   simp only [opsAt, List.map_cons, List.map_nil, List.getElem?_toArray, List.getElem?_cons_zero, List.getElem?_cons_succ, Option.getD_some]
   have za := fun k : After wr.heap.size wr => k.cell lS ya
   have zb := fun k : After wr.heap.size wr => k.cell lS3 p6
   have zc := fun k : After wr.heap.size wr => k.cell lgk hc
   repeat (go_big_quiet_step (((go_at_call 14; first | exact after_of (Nat.le_refl _) _ (HT1.out _) | exact after_of (Nat.le_refl _) _ (HT2.out _)))))
   refine wpQuiet_nil ?_
   intro kk
   unfold calmQ
   have kb := kk.h
   clear za zb zc
   obtain ⟨W6, hw1⟩ : ∃ W6, kk.w = W6 := ⟨_, rfl⟩
   rw [hw1] at kb
   rw [hw1]
   clear hw1 kk
   have S6 := HST.out.1.below kb
   have hB6 := HST.out.2.1.trans (kb.mono HST.out.2.1.size)
   have HL := Lib.hid (show Calls Tryz.prog 13 #[.pointer (some ⟨ag2, 0, none⟩), .string (⟨#[97, 100, 100, 32, 50, 32]⟩ ++ R1 ++ ⟨#[32]⟩ ++ R2)] W6 fun e w' => e = .returned (.tuple #[.string ⟨#[100, 111, 110, 101]⟩, .bool true]) ∧ _ ∧ _ from ln_add S6.a R (by decide) 2 x d (70368744177664 * ((n : Int) - (j + 1 : Nat))) 35184372088832 (by decide) (by decide) hkx hd1 (by decide) (by omega) (by omega) (fun h => by have := HM.out; omega) HST.out.2.2.2.1 _ HC2.out)
   have HS6 := Lib.hid (And.intro S6 hB6)
   clear S6 hB6 kb ya p6 hc qF hcf
   go_wp2_with fail
   refine HL.out.mono ?_
   rintro e W7 ⟨rfl, A7, u7⟩
   have S7 := HS6.out.1.line A7 u7
   have hB7 := HS6.out.1.lowU HS6.out.2 u7
   have S37 := HS.out.1.below hB7
   obtain ⟨g2, cap2, hv2, hc7⟩ := S37.r.key (i := j) (by rw [HN.out]; omega)
   cases hv2
   obtain ⟨gf2, capf2, hvf2, hcf7⟩ := S37.r.val h3 (i := j) (by rw [HN.out]; omega)
   have qF7 := S37.r.cellF h3
   rw [HXY.out.2.2] at hvf2 qF7
   cases hvf2
   have p67 := cell_of_heap S37.r.hd 6 _ rfl
   have ya7 := cell_of_heap S7.r.hd 0 _ rfl
   have lS7 := lt_of_block S7.r.hd
   have lS37 := lt_of_block S37.r.hd
   have lgk7 : g < W7.heap.size := (S37.r.kr.lt g rfl).2
   have lgf7 : gf < W7.heap.size := ((S37.r.fr h h3).lt gf (by rw [HXY.out.2.2]; rfl)).2
   rw [HXY.out.1] at hc7
   rw [HXY.out.2.1] at hcf7
   rw [HN.out] at p67 qF7
   obtain ⟨c1, hc1⟩ : ∃ c1 : Nat → Nat → List Int, (fun k => if k = 2 then stFed c x d (ct 2) else ct k) = c1 := ⟨_, rfl⟩
   rw [hc1] at A7 S7
   have hc12 : c1 2 = stFed c x d (ct 2) := by rw [← hc1]; rfl
   have hbd1 := bd_fed HST.out.2.2.2.1 (by omega) hd1 (by decide) x
   rw [← hc12] at hbd1
   have HS7 := Lib.hid (And.intro S7 (And.intro hB7 (And.intro hbd1 hc12)))
   clear S7 hB7 A7 u7 S37 hc1 hc12 hbd1 HL HS6
   go_wp2_with fail
   refine wp_region_mixA W7.heap.size [0, 1, 2, 3, 4, 5, 6, 7, 8, 9, 10, 11, 12, 13, 14, 15, 16, 17, 18, 19, 20, 21, 22, 23, 24, 25, 26, 27] [28, 29, 30, 31, 32, 33] (by kernel_rfl) (by kernel_rfl) rfl ?_
   simp only [opsAt, List.map_cons, List.map_nil, List.getElem?_toArray, List.getElem?_cons_zero, List.getElem?_cons_succ, Option.getD_some]
   have za := fun k : After W7.heap.size W7 => k.cell lS7 ya7
   have zb := fun k : After W7.heap.size W7 => k.cell lS37 p67
   have zc := fun k : After W7.heap.size W7 => k.cell lgk7 hc7
   have zd := fun k : After W7.heap.size W7 => k.cell lS37 qF7
   have ze := fun k : After W7.heap.size W7 => k.cell lgf7 hcf7
   repeat (go_big_quiet_step (((go_at_call 14; first | exact after_of (Nat.le_refl _) _ (HT1.out _) | exact after_of (Nat.le_refl _) _ (HT3.out _)))))
   refine wpQuiet_nil ?_
   intro kk
   unfold calmQ
   have kb := kk.h
   clear za zb zc zd ze
   obtain ⟨W8, hw1⟩ : ∃ W8, kk.w = W8 := ⟨_, rfl⟩
   rw [hw1] at kb
   rw [hw1]
   clear hw1 kk
   have S8 := HS7.out.1.below kb
   have hB8 := HS7.out.2.1.trans (kb.mono HS7.out.2.1.size)
   have HL := Lib.hid (show Calls Tryz.prog 13 #[.pointer (some ⟨ag2, 0, none⟩), .string (⟨#[97, 100, 100, 32, 50, 32]⟩ ++ R1 ++ ⟨#[32]⟩ ++ R3)] W8 fun e w' => e = .returned (.tuple #[.string ⟨#[100, 111, 110, 101]⟩, .bool true]) ∧ _ ∧ _ from ln_add S8.a R (by decide) 2 x (y - d) (70368744177664 * ((n : Int) - (j + 1 : Nat)) + 35184372088832) 35184372088832 (by decide) (by decide) hkx hd2 (by decide) (by omega) (by omega) (fun h => by have := HM.out; omega) HS7.out.2.2.1 _ HC3.out)
   have HS8 := Lib.hid (And.intro S8 hB8)
   clear S8 hB8 kb ya7 p67 hc7 qF7 hcf7
   go_wp2_with fail
   refine HL.out.mono ?_
   rintro e W9 ⟨rfl, A9, u9⟩
   have S9 := HS8.out.1.line A9 u9
   have hB9 := HS8.out.1.lowU HS8.out.2 u9
   obtain ⟨c2, hc2⟩ : ∃ c2 : Nat → Nat → List Int, (fun k => if k = 2 then stFed c x (y - d) (c1 2) else c1 k) = c2 := ⟨_, rfl⟩
   rw [hc2] at A9 S9
   have hc22 : c2 2 = stFed c x (y - d) (c1 2) := by rw [← hc2]; rfl
   have hbd2 := bd_fed HS7.out.2.2.1 (by omega) hd2 (by decide) x
   have hln := lin_two HST.out.2.2.1 (by have := HM.out; omega) (HA.out.len h h3) HST.out.2.2.2.2.1 HST.out.2.2.2.2.2
   rw [← HS7.out.2.2.2, ← hc22] at hln
   rw [← hc22] at hbd2
   have HR : ∃ (t : Nat) (z : Int) (ct : Nat → Nat → List Int), t ≤ n ∧ Value.int IntKind.i64 ((j : Int) - 1) = .int .i64 z ∧ z = (t : Int) - 1 ∧ Brd w3.heap.size W9 bd2 ag2 mb2 3 sd2 lb2 lcap2 vs2 c [] (fun _ => []) ct kv2 fv2 ∧ LinOk c (ct 2) K (gmF (F h) t) ∧ (∀ l, l ≤ c.b → Bd (70368744177664 * ((n : Int) - t)) (ct 2 l)) ∧ Below w3.heap.size w3 W9 := ⟨j, _, c2, by omega, rfl, rfl, S9, hln, fun l hl => (hbd2 l hl).mono (by omega), hB9⟩
   have HR := Lib.hid HR
   clear S9 hB9 A9 u9 hc2 hc22 hbd2 hln HL HS8
   go_wp2_with fail
   go_roundw
   case rel =>
    have HR := HR.out
    first | exact HR | ((repeat apply Exists.intro); exact ⟨HR, rfl⟩)
   case measure => simp only [intOf]; omega
  ·obtain rfl : t = 0 := by omega
   obtain rfl : z = -1 := by omega
   have c0 : decide ((0 : Int) ≤ -1) = false := by decide
   rw [gmF_zero] at hL
   have hsame := lin_same hL (HA.out.lin (by have := HM.out; omega) h h3)
   have hlen := HA.out.clen h3
   have hsm : ∀ l, l ≤ c.b → Small (cs (h + 1) l) := fun l hl x hx => by have := HA.out.cb h h3 l hl x hx; omega
   have hsm2 : ∀ l, l ≤ c.b → Small (ct 2 l) := fun l hl => by rw [hsame l hl]; exact hsm l hl
   have hlen2 : ∀ l, l ≤ c.b → (ct 2 l).length = c.size l := fun l hl => by rw [hsame l hl]; exact hlen l hl
   have hel := encB_len c R (cs (h + 1)) hsm hlen
   have hxl := export_long c (cs (h + 1))
   have hxs : (sOf ([98, 121, 116, 101, 115, 32] ++ hexL (encU c (cs (h + 1))))).size ≤ 2000000 := by
    rw [sOf_size, List.length_append, hexL_len]
    simp only [encU, List.length_map, List.length_cons, List.length_nil]
    omega
   have HE1 := Lib.hid fun (X : World) (S : Brd B0 X bd ag mb 3 sd lb lcap vs c K F cs (.slice ko K.length kc) fv) => ln_export S.a R (by decide) (h + 1) (by omega) (by omega) hsm hlen
   have HE2 := Lib.hid fun (X : World) (S : Brd w3.heap.size X bd2 ag2 mb2 3 sd2 lb2 lcap2 vs2 c [] (fun _ => []) ct kv2 fv2) => ln_export S.a R (by decide) 2 (by decide) (by decide) hsm2 hlen2 _ ln_exp2
   rw [encU_same hsame] at HE2
   obtain ⟨X, hX⟩ : ∃ X, sOf ([98, 121, 116, 101, 115, 32] ++ hexL (encU c (cs (h + 1)))) = X := ⟨_, rfl⟩
   rw [hX] at HE1 HE2 hxl hxs
   have HT1 := Lib.hid fun w => gtext_any ((h : Int) + 1) (by omega) (by omega) w
   have s1 := text_size ((h : Int) + 1) (by omega) (by omega)
   obtain ⟨R1, hR1⟩ : ∃ R1, sOf (Lib.itoa ((h : Int) + 1)) = R1 := ⟨_, rfl⟩
   rw [hR1] at HT1 s1
   have HC := Lib.hid (ln_exp ⟨#[101, 120, 112, 111, 114, 116, 32]⟩ R1 ((h : Int) + 1) rfl hR1.symm)
   have hBw := HS.out.2.trans (hB.mono HS.out.2.size)
   have HSr := Lib.hid (And.intro S3r (And.intro S hBw))
   have lS3 := lt_of_block S3r.r.hd
   have ya := cell_of_heap S3r.r.hd 0 _ rfl
   have z0 := fun k : After wr.heap.size wr => k.cell (b := bd) (o := 0) lS3 ya
   have HL := Lib.hid fun (k : After wr.heap.size wr) => (show Calls Tryz.prog 13 #[.pointer (some ⟨ag, 0, none⟩), .string (⟨#[101, 120, 112, 111, 114, 116, 32]⟩ ++ R1)] k.w fun e w' => e = .returned (.tuple #[.string X, .bool true]) ∧ Below k.w.heap.size k.w w' from HE1.out k.w (HSr.out.1.below k.h) _ HC.out)
   have fX1 : decide ((20 : Int) < (X.size : Int)) = true := decide_eq_true (by omega)
   clear S3r S hL hBd hB hBw hsame hlen hsm hsm2 hlen2 hel hX hR1 hz ya
   go_wp2_with fail
   refine wp_region_after wr.heap.size (by kernel_rfl) (by kernel_rfl) ?_
   repeat (go_big_quiet_step ((first | (go_at_call 14; exact after_of (Nat.le_refl _) _ (HT1.out _)) | (go_at_call 13; exact after_of (Nat.le_refl _) _ (HL.out _)))))
   refine wpQuiet_nil ?_
   intro k
   have kB := k.h
   obtain ⟨w8, hw8⟩ : ∃ w8, k.w = w8 := ⟨_, rfl⟩
   rw [hw8] at kB
   rw [hw8]
   clear hw8 k z0 HL
   have S8 := HSr.out.2.1.below kB
   have kb8 := HSr.out.2.2.trans (kB.mono HSr.out.2.2.size)
   have yb := cell_of_heap S8.r.hd 0 _ rfl
   have HS8 := Lib.hid (And.intro S8 kb8)
   clear S8 kb8 kB
   go_wp2_with fail
   refine (HE2.out _ HS8.out.1).mono ?_
   rintro e w9 ⟨rfl, hb9⟩
   have HF := Lib.hid (HX.out.2.1.trans ((HS8.out.2.trans (hb9.mono HS8.out.2.size)).mono HX.out.2.1.size))
   clear hb9 yb
   go_wp2_with fail
   go_ret
   exact ⟨rfl, HF.out⟩
end Go.Proofs.YtbhppbeepmllaaaGreatDoor

namespace Go.Proofs.YtbhppbeepmllaaaGreatDoor
open Go.RowKit

theorem lawmerges_no (b r wd m0 : Int) (s : Nat) (a0 : Int) (hr : ¬ rightP b r wd 1) (v : Value) (w : World) (ht : Tab w) :
  Calls Tryz.prog 6 #[.agg #[.int .i64 b, .int .i64 r, .int .i64 wd, .int .i64 m0, .int .u64 (s : Int)], v, .int .i64 a0] w fun e w' => e = .returned (.bool true) ∧ Below w.heap.size w w' := by
 have kb : Below w.heap.size w (w.alloc (.cells #[.int .i64 b, .int .i64 r, .int .i64 wd, .int .i64 m0, .int .u64 (s : Int)] 24)) := (Below.refl _ _).alloc (Nat.le_refl _) _
 have x0 : (w.alloc (.cells #[.int .i64 b, .int .i64 r, .int .i64 wd, .int .i64 m0, .int .u64 (s : Int)] 24)).heap[w.heap.size]? = some (Obj.cells #[.int .i64 b, .int .i64 r, .int .i64 wd, .int .i64 m0, .int .u64 (s : Int)] 24 (0, 0)) := heap_alloc_at _ rfl
 have htw := ht.below kb ht.lt
 obtain ⟨W, hW⟩ : ∃ W, (w.alloc (.cells #[.int .i64 b, .int .i64 r, .int .i64 wd, .int .i64 m0, .int .u64 (s : Int)] 24)) = W := ⟨_, rfl⟩
 rw [hW] at x0 kb htw
 have lx := lt_of_block x0
 have HWK := Lib.hid (works_any W htw)
 have HRT := Lib.hid fun w => (show Calls Tryz.prog 11 #[.agg #[.int .i64 b, .int .i64 r, .int .i64 wd, .int .i64 m0, .int .u64 (s : Int)]] w fun e w' => e = .returned (.bool false) ∧ Below w.heap.size w w' by
  have h := topright b r wd m0 s w
  rw [decide_eq_false hr] at h
  exact h)
 clear hr htw ht
 have HX := Lib.hid (And.intro x0 kb)
 clear x0 kb
 go_enter Tryz.func6, Tryz.ntmps6
 go_wp2_with fail
 clear hW
 refine HWK.out.mono ?_
 rintro e w1 ⟨rfl, hb1⟩
 have q0 := cell_of_heap ((hb1.block _ lx).trans HX.out.1) 0 _ rfl
 have q1 := cell_of_heap ((hb1.block _ lx).trans HX.out.1) 1 _ rfl
 have q2 := cell_of_heap ((hb1.block _ lx).trans HX.out.1) 2 _ rfl
 have q3 := cell_of_heap ((hb1.block _ lx).trans HX.out.1) 3 _ rfl
 have q4 := cell_of_heap ((hb1.block _ lx).trans HX.out.1) 4 _ rfl
 have HB := Lib.hid hb1
 clear hb1
 go_wp2_with fail
 refine (HRT.out _).mono ?_
 rintro e w2 ⟨rfl, hb2⟩
 have HB2 := Lib.hid hb2
 clear hb2
 go_wp2_with fail
 go_ret
 exact ⟨rfl, (HX.out.2.trans (HB.out.mono HX.out.2.size)).trans (HB2.out.mono (Nat.le_trans HX.out.2.size HB.out.size))⟩
theorem law_merges {b r wd m0 : Int} {s : Nat} (hs : s < 18446744073709551616) (l : List Opr) (hll : l.length ≤ 9223372036854775807) (v : Value) (a0 : Int) (h0 : -9223372036854775808 ≤ a0 ∧ a0 ≤ 9223372036854775807) (w : World) (ht : Tab w) (hv : OpsAt w w.heap.size v l) :
  Calls Tryz.prog 6 #[.agg #[.int .i64 b, .int .i64 r, .int .i64 wd, .int .i64 m0, .int .u64 (s : Int)], v, .int .i64 a0] w fun e w' => e = .returned (.bool true) ∧ Below w.heap.size w w' := by
 by_cases hr : rightP b r wd 1
 ·obtain ⟨⟨b1, b2⟩, ⟨r1, r2⟩, ⟨w1, w2⟩, _⟩ := hr
  obtain ⟨bn, rfl⟩ : ∃ n : Nat, b = n := ⟨b.toNat, by omega⟩
  obtain ⟨rn, rfl⟩ : ∃ n : Nat, r = n := ⟨r.toNat, by omega⟩
  obtain ⟨wn, rfl⟩ : ∃ n : Nat, wd = n := ⟨wd.toNat, by omega⟩
  cases hm : (bits BinOp.and IntKind.i64 m0 1 == 1) with
  | false => exact merges_lin ⟨bn, rn, wn, 1, s⟩ ⟨by show 1 ≤ bn; omega, by show bn ≤ 59; omega, by show 1 ≤ rn; omega, by show rn ≤ 8; omega, by show 1 ≤ wn; omega, by show wn ≤ 128; omega, by show 1 ≤ 1; omega, by show 1 ≤ 3; omega, hs⟩ m0 hm rfl a0 h0 v l hll w ht hv
  | true => exact merges_exp ⟨bn, rn, wn, 3, s⟩ ⟨by show 1 ≤ bn; omega, by show bn ≤ 59; omega, by show 1 ≤ rn; omega, by show rn ≤ 8; omega, by show 1 ≤ wn; omega, by show wn ≤ 128; omega, by show 1 ≤ 3; omega, by show 3 ≤ 3; omega, hs⟩ m0 hm rfl a0 h0 v l hll w ht hv
 ·exact lawmerges_no b r wd m0 s a0 hr v w ht
end Go.Proofs.YtbhppbeepmllaaaGreatDoor
