import Derived.Test.YtbhppbeepmllaaaGreatDoorMcf3fd1f5
import Derived.Test.YtbhppbeepmllaaaGreatDoorWQA237f631b
set_option linter.unusedVariables false
set_option linter.unusedSimpArgs false
set_option maxRecDepth 100000
set_option maxHeartbeats 2000000
namespace Go.Proofs.YtbhppbeepmllaaaGreatDoor
open Go.RowKit

theorem ln_catz (v : List UInt8) (V R1 : ByteArray) (a : Int) (hV : V.data.toList = v ++ [32]) (h1 : R1 = sOf (Lib.itoa a)) :
  (V ++ R1 ++ ⟨#[32, 48]⟩).data.toList = lnB v [a, 0] := by
 subst h1
 have h0 : Lib.itoa 0 = [48] := itoa_small 0 (by decide)
 simp only [app_list, hV, sOf_list, lnB, List.flatMap_cons, List.flatMap_nil, h0]
 simp
theorem quant_lin (c : Cfg) (R : c.Ok) (m0 : Int) (hmode : (bits BinOp.and IntKind.i64 m0 1 == 1) = false) (hm : c.m = 1) (a0 : Int) (ha0 : -9223372036854775808 ≤ a0 ∧ a0 ≤ 9223372036854775807) (a1 : Int) (ha1 : -9223372036854775808 ≤ a1 ∧ a1 ≤ 9223372036854775807) (v : Value) (l : List Opr) (hll : l.length ≤ 9223372036854775807) (w : World) (ht : Tab w) (hv : OpsAt w w.heap.size v l) :
  Calls Tryz.prog 5 #[.agg #[.int .i64 c.b, .int .i64 c.r, .int .i64 c.wd, .int .i64 m0, .int .u64 c.s], v, .agg #[.int .i64 a0, .int .i64 a1]] w fun e w' => e = .returned (.bool true) ∧ Below w.heap.size w w' := by
 obtain ⟨so, cap, hv1, _⟩ := id hv
 subst hv1
 have kb : Below w.heap.size w ((w.alloc (.cells #[.int .i64 c.b, .int .i64 c.r, .int .i64 c.wd, .int .i64 m0, .int .u64 c.s] 24)).alloc (.cells #[.int .i64 a0, .int .i64 a1] 77)) := ((Below.refl _ _).alloc (Nat.le_refl _) _).alloc (by simp) _
 have x0 : ((w.alloc (.cells #[.int .i64 c.b, .int .i64 c.r, .int .i64 c.wd, .int .i64 m0, .int .u64 c.s] 24)).alloc (.cells #[.int .i64 a0, .int .i64 a1] 77)).heap[w.heap.size]? = some (Obj.cells #[.int .i64 c.b, .int .i64 c.r, .int .i64 c.wd, .int .i64 m0, .int .u64 c.s] 24 (0, 0)) := heap_alloc_under _ (heap_alloc_at _ rfl)
 have x1 : ((w.alloc (.cells #[.int .i64 c.b, .int .i64 c.r, .int .i64 c.wd, .int .i64 m0, .int .u64 c.s] 24)).alloc (.cells #[.int .i64 a0, .int .i64 a1] 77)).heap[w.heap.size + 1]? = some (Obj.cells #[.int .i64 a0, .int .i64 a1] 77 (0, 0)) := heap_alloc_at _ (by simp)
 have htw := ht.below kb ht.lt
 have hv2 := hv.below kb
 obtain ⟨W, hW⟩ : ∃ W, ((w.alloc (.cells #[.int .i64 c.b, .int .i64 c.r, .int .i64 c.wd, .int .i64 m0, .int .u64 c.s] 24)).alloc (.cells #[.int .i64 a0, .int .i64 a1] 77)) = W := ⟨_, rfl⟩
 rw [hW] at x0 x1 kb htw hv2
 have ly := lt_of_block x1
 have lx := lt_of_block x0
 have HX := Lib.hid (And.intro (And.intro x0 x1) (And.intro kb (And.intro htw hv2)))
 have hb1 := R.b1
 have hb2 := R.b2
 have HWK := Lib.hid (works_any W htw)
 have HRT := Lib.hid fun w => (show Calls Tryz.prog 11 #[.agg #[.int .i64 c.b, .int .i64 c.r, .int .i64 c.wd, .int .i64 m0, .int .u64 c.s]] w fun e w' => e = .returned (.bool true) ∧ Below w.heap.size w w' by
  have h := topright c.b c.r c.wd m0 c.s w
  rw [decide_eq_true (show rightP c.b c.r c.wd 1 from R.right1)] at h
  exact h)
 have e2 : ((c.m : Nat) : Int) = 1 := by rw [hm]; rfl
 have HAC := Lib.hid fun (w1 : World) (hb : Below W.heap.size W w1) => (show Calls Tryz.prog 12 #[.agg #[.int .i64 c.b, .int .i64 c.r, .int .i64 c.wd, .int .i64 m0, .int .u64 c.s], .int .i64 1, .slice so l.length cap] w1 fun e w' => ∃ bd, e = .returned (.pointer (some ⟨bd, 0, none⟩)) ∧ ActOut c w1 l bd w' by
  have h := gacted_any c R R.s2 m0 (.slice so l.length cap) l hll w1 (htw.below hb htw.lt) ((hv2.below (hb.mono kb.size)).mono (Nat.le_trans kb.size hb.size))
  rw [e2] at h
  exact h)
 have HM := Lib.hid hm
 clear x0 x1 hv hv2 kb hm e2 htw ht
 go_enter Tryz.func5, Tryz.ntmps5
 go_wp2_with fail
 clear hW
 refine HWK.out.mono ?_
 rintro e w1 ⟨rfl, hb1w⟩
 have q0 := cell_of_heap ((hb1w.block _ lx).trans HX.out.1.1) 0 _ rfl
 have q1 := cell_of_heap ((hb1w.block _ lx).trans HX.out.1.1) 1 _ rfl
 have q2 := cell_of_heap ((hb1w.block _ lx).trans HX.out.1.1) 2 _ rfl
 have q3 := cell_of_heap ((hb1w.block _ lx).trans HX.out.1.1) 3 _ rfl
 have q4 := cell_of_heap ((hb1w.block _ lx).trans HX.out.1.1) 4 _ rfl
 go_wp2_with fail
 refine (HRT.out _).mono ?_
 rintro e w2 ⟨rfl, hb2w⟩
 have kb2 := hb1w.trans (hb2w.mono hb1w.size)
 clear hb1w hb2w q0 q1 q2 q3 q4
 have q0 := cell_of_heap ((kb2.block _ lx).trans HX.out.1.1) 0 _ rfl
 have q1 := cell_of_heap ((kb2.block _ lx).trans HX.out.1.1) 1 _ rfl
 have q2 := cell_of_heap ((kb2.block _ lx).trans HX.out.1.1) 2 _ rfl
 have q3 := cell_of_heap ((kb2.block _ lx).trans HX.out.1.1) 3 _ rfl
 have q4 := cell_of_heap ((kb2.block _ lx).trans HX.out.1.1) 4 _ rfl
 go_wp2_with fail
 refine (HAC.out _ kb2).mono ?_
 rintro e w3 ⟨bd, rfl, B0, ag, mb, sd, lb, lcap, vs, cs0, kv, fv, hz, hB0, S3, hb3⟩
 have kb3 := kb2.trans (hb3.mono kb2.size)
 have A := act_ok R hz l
 obtain ⟨st, hst⟩ : ∃ st, runS c ⟨[], fun _ => [], cs0⟩ (l.take 25) = st := ⟨_, rfl⟩
 rw [hst] at S3 A
 obtain ⟨K, F, cs⟩ := st
 dsimp only at S3 A
 have HZ := Lib.hid (And.intro hz hst)
 clear hst kb2 hb3 hB0 q0 q1 q2 q3 q4 HWK HRT HAC hz
 have HA := Lib.hid A
 have q0 := cell_of_heap ((kb3.block _ lx).trans HX.out.1.1) 0 _ rfl
 have r0 := cell_of_heap ((kb3.block _ ly).trans HX.out.1.2) 0 _ rfl
 have r1 := cell_of_heap ((kb3.block _ ly).trans HX.out.1.2) 1 _ rfl
 have h3 := handN_lt (a0 % 65536)
 have EH := handN_int (a0 % 65536)
 obtain ⟨h, hh⟩ : ∃ h, handN (a0 % 65536) = h := ⟨_, rfl⟩
 rw [hh] at h3 EH
 have hx16 := and16 a0
 have HG := Lib.hid fun w => (show Calls Tryz.prog 31 #[.int .i64 (a0 % 65536)] w fun e w' => e = .returned (.int .i64 (h : Int)) ∧ w' = w by
  have hg := ghandle_any (a0 % 65536) w
  rw [← EH] at hg
  exact hg)
 have hmid := A.mid (by decide) (by decide) h3
 have HMS := Lib.hid fun (X : World) (S : Brd B0 X bd ag mb 3 sd lb lcap vs c K F cs kv fv) => (show Calls Tryz.prog 29 #[.pointer (some ⟨bd, 0, none⟩), .int .i64 (h : Int), .agg #[.int .i64 (c.b : Int), .int .u64 0]] X fun e w' => e = .returned (.int .i64 (massI c.b 0 K (F h))) ∧ Below X.heap.size X w' from gmass_any S.r h c.b 0 h3 hmid (fun k hk => by have := A.keys k hk; have := R.keys_le' 0; omega) (by omega))
 have htot := A.total R h3
 have htb := (A.cb h h3 c.b (Nat.le_refl _)).getD (by decide) 0
 have hm12 : c.m = 1 ∨ c.m = 2 := by have := HM.out; omega
 have hq := fun (k : Int) (hp : ∀ x ∈ F h, 0 ≤ x) (h1 : 1 ≤ k) (h2 : k ≤ massI c.b 0 K (F h)) => A.quant R hm12 h3 hp h1 h2
 rw [htot] at htb
 obtain ⟨tot, htt⟩ : ∃ tot, massI c.b 0 K (F h) = tot := ⟨_, rfl⟩
 rw [htt] at htot htb HMS
 have HTT := Lib.hid (And.intro htot htt)
 have HQ := Lib.hid (And.intro hq (And.intro hmid A))
 have HT1 := Lib.hid fun w => gtext_any ((h : Int) + 1) (by omega) (by omega) w
 have s1 := text_size ((h : Int) + 1) (by omega) (by omega)
 obtain ⟨R1, hR1⟩ : ∃ R1, sOf (Lib.itoa ((h : Int) + 1)) = R1 := ⟨_, rfl⟩
 rw [hR1] at HT1 s1
 have HR1 := Lib.hid hR1
 have HS := Lib.hid (And.intro S3 kb3)
 have EHH := Lib.hid (And.intro EH hh)
 clear A S3 kb3 hmid htot htt hR1 hh EH hq
 go_wp2_with fail
 refine (HG.out _).mono ?_
 rintro e w4 ⟨rfl, rfl⟩
 go_wp2_with fail
 refine (HMS.out _ HS.out.1).mono ?_
 rintro e w5 ⟨rfl, hb5⟩
 have S5 := HS.out.1.below hb5
 have kb5 := HS.out.2.trans (hb5.mono HS.out.2.size)
 clear hb5 q0 r0 r1 hx16
 go_wp2_with fail
 refine (HT1.out _).mono ?_
 rintro e w6 ⟨rfl, hb6⟩
 have S6 := S5.below hb6
 have kb6 := kb5.trans (hb6.mono kb5.size)
 have HL := Lib.hid (show Calls Tryz.prog 13 #[.pointer (some ⟨ag, 0, none⟩), .string (⟨#[113, 117, 97, 110, 116, 105, 108, 101, 32]⟩ ++ R1 ++ ⟨#[32, 48]⟩)] w6 fun e w' => e = .returned (.tuple #[.string ⟨#[101, 114, 114, 111, 114, 32, 54]⟩, .bool true]) ∧ Below w6.heap.size w6 w' from ln_quantno S6.a R (by decide) (h + 1) (by omega) (by omega) 0 (by omega) (.inl (by decide)) _ (ln_catz [113, 117, 97, 110, 116, 105, 108, 101] ⟨#[113, 117, 97, 110, 116, 105, 108, 101, 32]⟩ R1 ((h : Int) + 1) rfl HR1.out.symm))
 have z0 := cell_of_heap S6.r.hd 0 _ rfl
 have HS6 := Lib.hid (And.intro S6 kb6)
 clear S5 kb5 S6 kb6 hb6
 go_wp2_with fail
 refine HL.out.mono ?_
 rintro e w7 ⟨rfl, hb7⟩
 have S7 := HS6.out.1.below hb7
 have kb7 := HS6.out.2.trans (hb7.mono HS6.out.2.size)
 have HT2 := Lib.hid fun w => gtext_any (max tot 0 + 1) (by omega) (by omega) w
 have s2 := text_size (max tot 0 + 1) (by omega) (by omega)
 obtain ⟨R2, hR2⟩ : ∃ R2, sOf (Lib.itoa (max tot 0 + 1)) = R2 := ⟨_, rfl⟩
 rw [hR2] at HT2 s2
 have HL2 := Lib.hid fun (k : After w7.heap.size w7) => (show Calls Tryz.prog 13 #[.pointer (some ⟨ag, 0, none⟩), .string (⟨#[113, 117, 97, 110, 116, 105, 108, 101, 32]⟩ ++ R1 ++ ⟨#[32]⟩ ++ R2)] k.w fun e w' => e = .returned (.tuple #[.string ⟨#[101, 114, 114, 111, 114, 32, 54]⟩, .bool true]) ∧ Below k.w.heap.size k.w w' from ln_quantno (S7.a.below k.h) R (by decide) (h + 1) (by omega) (by omega) (max tot 0 + 1) (by omega) (.inr (by have := HTT.out.1; omega)) _ (ln_cat2 [113, 117, 97, 110, 116, 105, 108, 101] ⟨#[113, 117, 97, 110, 116, 105, 108, 101, 32]⟩ R1 R2 ((h : Int) + 1) (max tot 0 + 1) rfl HR1.out.symm hR2.symm))
 clear z0
 have z0 := fun k : After w7.heap.size w7 => k.cell (b := bd) (o := 0) (lt_of_block S7.r.hd) (cell_of_heap S7.r.hd 0 _ rfl)
 have HS7 := Lib.hid (And.intro S7 kb7)
 clear S7 kb7 hb7 hR2 HL
 go_wp2_with fail
 refine wp_region_after w7.heap.size (by kernel_rfl) (by kernel_rfl) ?_
 repeat (go_big_quiet_step ((first | (go_at_call 14; exact after_of (Nat.le_refl _) _ (HT2.out _)) | (go_at_call 13; exact after_of (Nat.le_refl _) _ (HL2.out _)))))
 refine wpQuiet_nil ?_
 intro k
 have kB := k.h
 obtain ⟨w8, hw8⟩ : ∃ w8, k.w = w8 := ⟨_, rfl⟩
 rw [hw8] at kB
 rw [hw8]
 clear hw8 k z0 HL2 HT2
 have S8 := HS7.out.1.below kB
 have kb8 := HS7.out.2.trans (kB.mono HS7.out.2.size)
 have HS8 := Lib.hid (And.intro S8 kb8)
 clear kB
 have r1 := cell_of_heap ((kb8.block _ ly).trans HX.out.1.2) 1 _ rfl
 have HF := Lib.hid (HX.out.2.1.trans (kb8.mono HX.out.2.1.size))
 obtain ⟨pl, hpl⟩ : ∃ pl, decide (∀ x ∈ F h, 0 ≤ x) = pl := ⟨_, rfl⟩
 have HPL := Lib.hid (show Calls Tryz.prog 30 #[.pointer (some ⟨bd, 0, none⟩), .int .i64 (h : Int)] w8 fun e w' => e = .returned (.bool pl) ∧ w' = w8 by
  have hg := gplain_any S8.r h h3 HQ.out.2.1
  rw [hpl] at hg
  exact hg)
 clear S8 kb8
 by_cases ht1 : tot < 1
 ·have d1 : decide (tot < 1) = true := decide_eq_true ht1
  clear hpl
  go_wp2_with fail
  go_ret
  exact ⟨rfl, HF.out⟩
 ·have d1 : decide (tot < 1) = false := decide_eq_false ht1
  cases pl with
  | false =>
   clear hpl
   go_wp2_with fail
   refine HPL.out.mono ?_
   rintro e w9 ⟨rfl, rfl⟩
   go_wp2_with fail
   go_ret
   exact ⟨rfl, HF.out⟩
  | true =>
   have hp := of_decide_eq_true hpl
   have h62 := and62 a1
   have hz1 := Int.emod_nonneg a1 (show (4611686018427387904 : Int) ≠ 0 by decide)
   have hz2 := Int.emod_lt_of_pos a1 (show (0 : Int) < 4611686018427387904 by decide)
   obtain ⟨A1, hA1⟩ : ∃ A1, a1 % 4611686018427387904 = A1 := ⟨_, rfl⟩
   rw [hA1] at h62 hz1 hz2
   have htm := Int.tmod_eq_emod_of_nonneg (a := A1) (b := tot) hz1
   have hk1 := Int.emod_nonneg A1 (show tot ≠ 0 by omega)
   have hk2 := Int.emod_lt_of_pos A1 (show (0 : Int) < tot by omega)
   obtain ⟨k0, hk0⟩ : ∃ k0, A1 % tot = k0 := ⟨_, rfl⟩
   rw [hk0] at htm hk1 hk2
   have dz : (tot == 0) = false := by simp; omega
   obtain ⟨q1, q2, q3⟩ := HQ.out.1 (1 + k0) hp (by omega) (by rw [HTT.out.2]; omega)
   obtain ⟨kk, hkk⟩ : ∃ kk, wayI (fun l i => c.lvTold l i (cs (h + 1) l)) c.b 0 (1 + k0) = kk := ⟨_, rfl⟩
   rw [hkk] at q1 q2 q3
   have hpw : 2 ^ c.b ≤ 2 ^ 59 := Nat.pow_le_pow_right (by decide) hb2
   have HKK := Lib.hid (And.intro hkk (And.intro hp (And.intro q2 (And.intro q3 q1))))
   have hkb : kk < 576460752303423488 := by omega
   have HT3 := Lib.hid fun w => gtext_any (1 + k0) (by omega) (by omega) w
   have s3 := text_size (1 + k0) (by omega) (by omega)
   obtain ⟨R3, hR3⟩ : ∃ R3, sOf (Lib.itoa (1 + k0)) = R3 := ⟨_, rfl⟩
   rw [hR3] at HT3 s3
   have HTD := Lib.hid fun l i (hl : l ≤ c.b) => told_bdG (c := c) (by decide) (HQ.out.2.2.cb h h3 l hl) l i
   obtain ⟨X, hX⟩ : ∃ X, sOf ([107, 101, 121, 32] ++ Lib.itoa (kk : Int)) = X := ⟨_, rfl⟩
   have HL3 := Lib.hid fun (k : After w8.heap.size w8) => (show Calls Tryz.prog 13 #[.pointer (some ⟨ag, 0, none⟩), .string (⟨#[113, 117, 97, 110, 116, 105, 108, 101, 32]⟩ ++ R1 ++ ⟨#[32]⟩ ++ R3)] k.w fun e w' => e = .returned (.tuple #[.string X, .bool true]) ∧ Below k.w.heap.size k.w w' by
    have hg := ln_quant (HS8.out.1.a.below k.h) R (by decide) (h + 1) (by omega) (by omega) (1 + k0) 35184372088832 kk hkk (by omega) (by rw [HTT.out.1]; omega) (by decide) (fun l i hl hi => HTD.out l i hl) (by omega) (by omega) _ (ln_cat2 [113, 117, 97, 110, 116, 105, 108, 101] ⟨#[113, 117, 97, 110, 116, 105, 108, 101, 32]⟩ R1 R3 ((h : Int) + 1) (1 + k0) rfl HR1.out.symm hR3.symm)
    rw [hX] at hg
    exact hg)
   have HN := Lib.hid fun w => topnum_any [107, 101, 121, 32] (by decide) (kk : Int) (by omega) (by omega) w
   rw [hX] at HN
   have z0 := fun k : After w8.heap.size w8 => k.cell (b := bd) (o := 0) (lt_of_block HS8.out.1.r.hd) (cell_of_heap HS8.out.1.r.hd 0 _ rfl)
   clear hpl hp hA1 hk0 hkk q1 q2 q3 hR3 hX
   go_wp2_with fail
   refine HPL.out.mono ?_
   rintro e w9 ⟨rfl, rfl⟩
   go_wp2_with fail
   refine wp_region_after w9.heap.size (by kernel_rfl) (by kernel_rfl) ?_
   repeat (go_big_quiet_step ((first | (go_at_call 14; exact after_of (Nat.le_refl _) _ (HT3.out _)) | (go_at_call 13; exact after_of (Nat.le_refl _) _ (HL3.out _)))))
   refine wpQuiet_nil ?_
   intro k
   have kB := k.h
   obtain ⟨wa, hwa⟩ : ∃ wa, k.w = wa := ⟨_, rfl⟩
   rw [hwa] at kB
   rw [hwa]
   clear hwa k z0 HL3 HT3 r1
   have Sa := HS8.out.1.below kB
   have kba := HS8.out.2.trans (kB.mono HS8.out.2.size)
   have HSa := Lib.hid (And.intro Sa kba)
   clear kB
   go_wp2_with fail
   refine (HN.out _).mono ?_
   rintro e wb ⟨rfl, rfl⟩
   have p1 := cell_of_heap Sa.r.hd 1 _ rfl
   have p2 := cell_of_heap Sa.r.hd 2 _ rfl
   have p3 := cell_of_heap Sa.r.hd 3 _ rfl
   have p4 := cell_of_heap Sa.r.hd 4 _ rfl
   have p5 := cell_of_heap Sa.r.hd 5 _ rfl
   have HK := Lib.hid (show Calls Tryz.prog 35 #[.agg #[.int .i64 c.b, .int .i64 c.r, .int .i64 c.wd, .int .i64 c.m, .int .u64 c.s], .int .i64 0] wb fun e w' => e = .returned (.int .u64 (c.keys 0 : Nat)) ∧ Below wb.heap.size wb w' from gkeys_any c R 0 (Nat.zero_le _) wb)
   have hkeys : c.keys 0 = 2 ^ c.b := by unfold Cfg.keys; simp
   have hkk0 : kk < c.keys 0 := by rw [hkeys]; exact HKK.out.2.2.2.2
   have hkk9 := R.keys_le' 0
   obtain ⟨nk, hnk⟩ : ∃ nk, c.keys 0 = nk := ⟨_, rfl⟩
   rw [hnk] at HK hkk0 hkk9
   have dk1 : decide (nk ≤ kk) = false := decide_eq_false (by omega)
   have dk2 : decide ((nk : Int) ≤ (kk : Int)) = false := decide_eq_false (by omega)
   have dk3 : decide ((kk : Int) < 0) = false := decide_eq_false (by omega)
   clear Sa kba hkeys
   go_wp2_with fail
   refine HK.out.mono ?_
   rintro e wc ⟨rfl, hbc⟩
   have Sc := HSa.out.1.below hbc
   have kbc := HSa.out.2.trans (hbc.mono HSa.out.2.size)
   have q0 := cell_of_heap ((kbc.block _ lx).trans HX.out.1.1) 0 _ rfl
   have HSc := Lib.hid (And.intro Sc kbc)
   have HOVB := Lib.hid fun L (hL : L ≤ c.b) => over_bd (fun l i => c.lvTold l i (cs (h + 1) l)) K (F h) c.b 35184372088832 (by decide) (fun l i hl hi => ⟨HQ.out.2.2.low R hm12 h3 HKK.out.2.1 l i hl hi, by have h1 := HTD.out l i hl; have h2 : 0 ≤ massI l i K (F h) := sumIf_nonneg _ _ _ HKK.out.2.1; omega⟩) L kk hL HKK.out.2.2.2.2
   obtain ⟨td, htd⟩ : ∃ td : Nat → Nat → Int, (fun l i => c.lvTold l i (cs (h + 1) l)) = td := ⟨_, rfl⟩
   rw [htd] at HOVB
   have HTE := Lib.hid htd
   have hov0 := (HOVB.out c.b (Nat.le_refl _))
   obtain ⟨ov, hov⟩ : ∃ ov, overI td K (F h) c.b kk = ov := ⟨_, rfl⟩
   rw [hov] at hov0
   have HOV := Lib.hid hov
   clear p1 p2 p3 p4 p5 HK hbc Sc kbc htd hov
   go_wp2_with fail
   go_loopw [22, 23, 24, 25, 26] (fun a b _ _ _ wr => ∃ j : Nat, j ≤ c.b ∧ a = .int .i64 (ov - overI td K (F h) j kk) ∧ b = .int .i64 (j : Int) ∧ Below wc.heap.size wc wr) (fun _ b _ _ _ _ => (intOf b).toNat)
   case atStart => exact ⟨c.b, Nat.le_refl _, by rw [HOV.out]; simp, rfl, Below.refl _ _⟩
   case round =>
    clear q0
    obtain ⟨j, hj, rfl, rfl, hB⟩ := hrel
    have hoj := HOVB.out j hj
    by_cases hj0 : 0 < j
    ·obtain ⟨t, rfl⟩ : ∃ t, j = t + 1 := ⟨j - 1, by omega⟩
     have c0 : decide ((0 : Int) < ((t + 1 : Nat) : Int)) = true := by simp
     have hstep : overI td K (F h) (t + 1) kk = overI td K (F h) t kk + (td t (kk / 2 ^ (t + 1) * 2) - massI t (kk / 2 ^ (t + 1) * 2) K (F h)) := rfl
     have hot := HOVB.out t (by omega)
     have hqb : kk / 2 ^ (t + 1) * 2 < c.keys t := by
      unfold Cfg.keys
      have h1 : kk / 2 ^ (t + 1) < 2 ^ (c.b - (t + 1)) := by
       apply Nat.div_lt_of_lt_mul
       rw [← Nat.pow_add, show t + 1 + (c.b - (t + 1)) = c.b by omega]; exact HKK.out.2.2.2.2
      rw [show c.b - t = (c.b - (t + 1)) + 1 by omega, Nat.pow_succ (n := 2) (m := c.b - (t + 1))]
      obtain ⟨q, hq⟩ : ∃ q, kk / 2 ^ (t + 1) = q := ⟨_, rfl⟩
      rw [hq] at h1 ⊢
      omega
     have hq1 : ((kk : Int) / 2 ^ (t + 1)) = ((kk / 2 ^ (t + 1) : Nat) : Int) := by simp
     obtain ⟨q, hq⟩ : ∃ q, kk / 2 ^ (t + 1) = q := ⟨_, rfl⟩
     rw [hq] at hq1 hqb hstep
     have hwq : IntKind.u64.wrap ((q : Int) * 2) = ((q * 2 : Nat) : Int) := by
      have h1 := R.keys_le' t
      rw [IntKind.wrap_u64, Int.emod_eq_of_lt (by omega) (by omega)]; simp
     have htl := HTD.out t (q * 2) (by omega)
     have hml : 0 ≤ massI t (q * 2) K (F h) := sumIf_nonneg _ _ _ HKK.out.2.1
     have hlw := HQ.out.2.2.low R hm12 h3 HKK.out.2.1 t (q * 2) (by omega) hqb
     have HMS2 := Lib.hid fun (X : World) (S : Brd B0 X bd ag mb 3 sd lb lcap vs c K F cs kv fv) => gmass_any S.r h t (q * 2) h3 HQ.out.2.1 (fun k hk => by have := HQ.out.2.2.keys k hk; have := R.keys_le' 0; omega) (by omega)
     have HPT := Lib.hid fun (X : World) (S : Brd B0 X bd ag mb 3 sd lb lcap vs c K F cs kv fv) => gpoint_any S R (by decide) h (by omega) t (q * 2) (by omega) hqb (by omega)
     have htq : c.lvTold t (q * 2) (cs (h + 1) t) = td t (q * 2) := congrFun (congrFun HTE.out t) (q * 2)
     rw [htq] at HPT htl hlw
     have ka : Below wr.heap.size wr (wr.alloc (Obj.cells #[Value.int IntKind.i64 t, Value.int IntKind.u64 ((q * 2 : Nat) : Int)] 55)) := (Below.refl _ _).alloc (Nat.le_refl _) _
     have xa : (wr.alloc (Obj.cells #[Value.int IntKind.i64 t, Value.int IntKind.u64 ((q * 2 : Nat) : Int)] 55)).heap[wr.heap.size]? = some (Obj.cells #[Value.int IntKind.i64 t, Value.int IntKind.u64 ((q * 2 : Nat) : Int)] 55 (0, 0)) := heap_alloc_at _ rfl
     obtain ⟨pn, hpn⟩ : ∃ pn, q * 2 = pn := ⟨_, rfl⟩
     rw [hpn] at hwq htl hml hlw HMS2 HPT ka xa hstep
     obtain ⟨tv, htv⟩ : ∃ tv, td t pn = tv := ⟨_, rfl⟩
     obtain ⟨mv, hmv⟩ : ∃ mv, massI t pn K (F h) = mv := ⟨_, rfl⟩
     obtain ⟨o1, ho1⟩ : ∃ o1, overI td K (F h) (t + 1) kk = o1 := ⟨_, rfl⟩
     obtain ⟨o0, ho0⟩ : ∃ o0, overI td K (F h) t kk = o0 := ⟨_, rfl⟩
     rw [htv] at HPT htl hlw hstep
     rw [hmv] at HMS2 hml hlw hstep
     rw [ho1] at hoj hstep ⊢
     rw [ho0] at hot hstep
     have HJJ := Lib.hid (And.intro hstep (And.intro ho0 (And.intro hB (And.intro ka xa))))
     obtain ⟨Xa, hXa⟩ : ∃ Xa, wr.alloc (Obj.cells #[Value.int IntKind.i64 t, Value.int IntKind.u64 (pn : Int)] 55) = Xa := ⟨_, rfl⟩
     rw [hXa] at HJJ xa
     have q0 := cell_of_heap xa 0 _ rfl
     have q1 := cell_of_heap xa 1 _ rfl
     have lxa := lt_of_block xa
     have HO := Lib.hid (And.intro hot hoj)
     have ob1 := hoj.1
     have ob2 : o1 ≤ 35184372088832 * 60 := by omega
     clear hstep hpn htv hmv ho1 ho0 hB ka xa htq hoj hot
     go_wp2_with fail
     clear hXa
     have SX := (HSc.out.1.below HJJ.out.2.2.1).below HJJ.out.2.2.2.1
     refine (HPT.out _ SX).mono ?_
     rintro e wd ⟨rfl, hbd⟩
     have Sd := SX.below hbd
     replace q0 := (hbd.cell (p := ⟨wr.heap.size, 0, none⟩) lxa).trans q0
     replace q1 := (hbd.cell (p := ⟨wr.heap.size, 1, none⟩) lxa).trans q1
     have HD := Lib.hid (And.intro Sd hbd)
     clear SX Sd hbd
     go_wp2_with fail
     refine (HMS2.out _ HD.out.1).mono ?_
     rintro e we ⟨rfl, hbe⟩
     have HE := Lib.hid hbe
     clear hbe q0 q1
     go_wp2_with fail
     go_roundw
     case rel =>
      have hb1 := HJJ.out.2.2.1
      have k2 := HJJ.out.2.2.2.1
      have k3 := HD.out.2
      have k4 := HE.out
      have hst := HJJ.out.1
      have HR : ∃ j : Nat, j ≤ c.b ∧ Value.int IntKind.i64 (ov - o1 + tv - mv) = .int .i64 (ov - overI td K (F h) j kk) ∧ Value.int IntKind.i64 (t : Int) = .int .i64 (j : Int) ∧ Below wc.heap.size wc we := ⟨t, by omega, by rw [HJJ.out.2.1]; congr 1; omega, rfl, ((hb1.trans (k2.mono hb1.size)).trans (k3.mono (Nat.le_trans hb1.size k2.size))).trans (k4.mono (Nat.le_trans (Nat.le_trans hb1.size k2.size) k3.size))⟩
      first | exact HR | ((repeat apply Exists.intro); exact ⟨HR, rfl⟩)
     case measure => simp [intOf]
    ·obtain rfl : j = 0 := by omega
     have c0 : decide ((0 : Int) < ((0 : Nat) : Int)) = false := by simp
     have hz : overI td K (F h) 0 kk = 0 := rfl
     rw [hz, Int.sub_zero]
     have Sr := HSc.out.1.below hB
     have HSr := Lib.hid (And.intro Sr (HSc.out.2.trans (hB.mono HSc.out.2.size)))
     have hin := hov0
     have hov2 : ov ≤ 35184372088832 * 60 := by omega
     have HFF := Lib.hid (HX.out.2.1.trans (HSr.out.2.mono HX.out.2.1.size))
     have hfl := HSr.out.1.r.fl h h3
     have hKl : K.length ≤ 25 := HQ.out.2.2.few
     have hmid2 := HQ.out.2.1
     obtain ⟨ko, kc, hkv⟩ := HSr.out.1.r.kform
     have p6 := cell_of_heap HSr.out.1.r.hd 6 _ rfl
     rw [hkv] at p6
     have hU1 := fun i => hmid2.sum (fun k => decide (k < kk)) K i
     have hU2 := fun i => hmid2.sum (fun k => decide (k < kk + 1)) K i
     have HU := Lib.hid (And.intro hU1 hU2)
     have HFL := Lib.hid (And.intro hfl hkv)
     clear hB hoj hz Sr hU1 hU2 hfl hkv hmid2
     go_wp2_with fail
     go_loop [27, 28, 29] (fun a b i => ∃ k : Nat, k ≤ K.length ∧ a = .int .i64 (sumIf (fun k => decide (k < kk)) (K.take k) ((F h).take k)) ∧ b = .int .i64 (sumIf (fun k => decide (k < kk + 1)) (K.take k) ((F h).take k)) ∧ i = .int .i64 (k : Int)) (fun _ _ i => K.length - (intOf i).toNat)
     case atStart => exact ⟨0, by omega, by simp [sumIf], by simp [sumIf], rfl⟩
     case round =>
      obtain ⟨k, hk, rfl, rfl, rfl⟩ := hrel
      have hs1 := HU.out.1 k
      have hs2 := HU.out.2 k
      by_cases hlt : k < K.length
      ·have hst1 := sumIf_take (fun k => decide (k < kk)) K (F h) HFL.out.1.symm k hlt
       have hst2 := sumIf_take (fun k => decide (k < kk + 1)) K (F h) HFL.out.1.symm k hlt
       obtain ⟨g, cap2, hv, hc⟩ := HSr.out.1.r.key hlt
       rw [HFL.out.2] at hv
       cases hv
       obtain ⟨gf, capf, hvf, hcf⟩ := HSr.out.1.r.val h3 hlt
       have qF := HSr.out.1.r.cellF h3
       rw [hvf] at qF
       have hFx := HQ.out.2.1.at k
       have c0 : decide ((k : Int) < K.length) = true := by simp; omega
       have hkx : K.getD k 0 < c.keys 0 := by
        rw [List.getD_eq_getElem?_getD, List.getElem?_eq_getElem hlt]; exact HQ.out.2.2.keys _ (List.getElem_mem hlt)
       have hk9 := R.keys_le' 0
       obtain ⟨x, hx⟩ : ∃ x, K.getD k 0 = x := ⟨_, rfl⟩
       obtain ⟨y, hy⟩ : ∃ y, (F h).getD k 0 = y := ⟨_, rfl⟩
       obtain ⟨s1', hs1'⟩ : ∃ s, sumIf (fun k => decide (k < kk)) (K.take k) ((F h).take k) = s := ⟨_, rfl⟩
       obtain ⟨s2', hs2'⟩ : ∃ s, sumIf (fun k => decide (k < kk + 1)) (K.take k) ((F h).take k) = s := ⟨_, rfl⟩
       rw [hx] at hc hkx hst1 hst2
       rw [hy] at hcf hFx hst1 hst2
       rw [hs1'] at hst1 hs1 ⊢
       rw [hs2'] at hst2 hs2 ⊢
       obtain ⟨n, hn⟩ : ∃ n, K.length = n := ⟨_, rfl⟩
       rw [hn] at hlt p6 qF c0
       have e1 : decide ((x : Int) < (kk : Int)) = decide (x < kk) := by apply decide_eq_decide.2; omega
       have e2 : decide ((x : Int) ≤ (kk : Int)) = decide (x < kk + 1) := by apply decide_eq_decide.2; omega
       have e3 : decide (x ≤ kk) = decide (x < kk + 1) := by apply decide_eq_decide.2; omega
       obtain ⟨b1, hb1'⟩ : ∃ b1, decide (x < kk) = b1 := ⟨_, rfl⟩
       obtain ⟨b2, hb2'⟩ : ∃ b2, decide (x < kk + 1) = b2 := ⟨_, rfl⟩
       rw [hb1'] at e1 hst1
       rw [hb2'] at e2 e3 hst2
       clear hb2'
       have HT9 := Lib.hid (And.intro hst1 (And.intro hst2 hn))
       clear hst1 hst2 hx hy hs1' hs2' hvf hn
       cases b1 <;> cases b2
       ·go_wp2_with fail
        obtain ⟨hst1, hst2, hn⟩ := HT9.out
        have HR : ∃ k' : Nat, k' ≤ K.length ∧ Value.int IntKind.i64 (s1') = .int .i64 (sumIf (fun k => decide (k < kk)) (K.take k') ((F h).take k')) ∧ Value.int IntKind.i64 (s2') = .int .i64 (sumIf (fun k => decide (k < kk + 1)) (K.take k') ((F h).take k')) ∧ Value.int IntKind.i64 ((k : Int) + 1) = .int .i64 (k' : Int) := ⟨k + 1, by omega, by rw [hst1]; simp, by rw [hst2]; simp, by simp⟩
        exact ⟨HR, by simp only [intOf]; omega⟩
       ·go_wp2_with fail
        obtain ⟨hst1, hst2, hn⟩ := HT9.out
        have HR : ∃ k' : Nat, k' ≤ K.length ∧ Value.int IntKind.i64 (s1') = .int .i64 (sumIf (fun k => decide (k < kk)) (K.take k') ((F h).take k')) ∧ Value.int IntKind.i64 (s2' + y) = .int .i64 (sumIf (fun k => decide (k < kk + 1)) (K.take k') ((F h).take k')) ∧ Value.int IntKind.i64 ((k : Int) + 1) = .int .i64 (k' : Int) := ⟨k + 1, by omega, by rw [hst1]; simp, by rw [hst2]; simp, by simp⟩
        exact ⟨HR, by simp only [intOf]; omega⟩
       ·go_wp2_with fail
        obtain ⟨hst1, hst2, hn⟩ := HT9.out
        have HR : ∃ k' : Nat, k' ≤ K.length ∧ Value.int IntKind.i64 (s1' + y) = .int .i64 (sumIf (fun k => decide (k < kk)) (K.take k') ((F h).take k')) ∧ Value.int IntKind.i64 (s2') = .int .i64 (sumIf (fun k => decide (k < kk + 1)) (K.take k') ((F h).take k')) ∧ Value.int IntKind.i64 ((k : Int) + 1) = .int .i64 (k' : Int) := ⟨k + 1, by omega, by rw [hst1]; simp, by rw [hst2]; simp, by simp⟩
        exact ⟨HR, by simp only [intOf]; omega⟩
       ·go_wp2_with fail
        obtain ⟨hst1, hst2, hn⟩ := HT9.out
        have HR : ∃ k' : Nat, k' ≤ K.length ∧ Value.int IntKind.i64 (s1' + y) = .int .i64 (sumIf (fun k => decide (k < kk)) (K.take k') ((F h).take k')) ∧ Value.int IntKind.i64 (s2' + y) = .int .i64 (sumIf (fun k => decide (k < kk + 1)) (K.take k') ((F h).take k')) ∧ Value.int IntKind.i64 ((k : Int) + 1) = .int .i64 (k' : Int) := ⟨k + 1, by omega, by rw [hst1]; simp, by rw [hst2]; simp, by simp⟩
        exact ⟨HR, by simp only [intOf]; omega⟩
      ·obtain rfl : k = K.length := by omega
       have c0 : decide ((K.length : Int) < K.length) = false := by simp
       have hFt : (F h).take K.length = F h := by rw [← HFL.out.1, List.take_length]
       rw [List.take_length, hFt] at hs1 hs2 ⊢
       clear hFt
       have g1 := HKK.out.2.2.1
       have g2 := HKK.out.2.2.2.1
       unfold lessS at g1 g2
       rw [HTE.out, HOV.out] at g2
       obtain ⟨u1, hu1⟩ : ∃ u, sumIf (fun k => decide (k < kk)) K (F h) = u := ⟨_, rfl⟩
       obtain ⟨u2, hu2⟩ : ∃ u, sumIf (fun k => decide (k < kk + 1)) K (F h) = u := ⟨_, rfl⟩
       rw [hu1] at hs1 g1 ⊢
       rw [hu2] at hs2 g2 ⊢
       have f1 : decide (u1 < 1 + k0) = true := decide_eq_true g1
       have f2 : decide (1 + k0 ≤ u2 + ov) = true := decide_eq_true g2
       clear g1 g2 hu1 hu2
       go_wp2_with fail
       go_ret
       exact ⟨rfl, HFF.out⟩
theorem quant_cons (c : Cfg) (R : c.Ok) (m0 : Int) (hmode : (bits BinOp.and IntKind.i64 m0 1 == 1) = true) (hm : c.m = 2) (a0 : Int) (ha0 : -9223372036854775808 ≤ a0 ∧ a0 ≤ 9223372036854775807) (a1 : Int) (ha1 : -9223372036854775808 ≤ a1 ∧ a1 ≤ 9223372036854775807) (v : Value) (l : List Opr) (hll : l.length ≤ 9223372036854775807) (w : World) (ht : Tab w) (hv : OpsAt w w.heap.size v l) :
  Calls Tryz.prog 5 #[.agg #[.int .i64 c.b, .int .i64 c.r, .int .i64 c.wd, .int .i64 m0, .int .u64 c.s], v, .agg #[.int .i64 a0, .int .i64 a1]] w fun e w' => e = .returned (.bool true) ∧ Below w.heap.size w w' := by
 obtain ⟨so, cap, hv1, _⟩ := id hv
 subst hv1
 have kb : Below w.heap.size w ((w.alloc (.cells #[.int .i64 c.b, .int .i64 c.r, .int .i64 c.wd, .int .i64 m0, .int .u64 c.s] 24)).alloc (.cells #[.int .i64 a0, .int .i64 a1] 77)) := ((Below.refl _ _).alloc (Nat.le_refl _) _).alloc (by simp) _
 have x0 : ((w.alloc (.cells #[.int .i64 c.b, .int .i64 c.r, .int .i64 c.wd, .int .i64 m0, .int .u64 c.s] 24)).alloc (.cells #[.int .i64 a0, .int .i64 a1] 77)).heap[w.heap.size]? = some (Obj.cells #[.int .i64 c.b, .int .i64 c.r, .int .i64 c.wd, .int .i64 m0, .int .u64 c.s] 24 (0, 0)) := heap_alloc_under _ (heap_alloc_at _ rfl)
 have x1 : ((w.alloc (.cells #[.int .i64 c.b, .int .i64 c.r, .int .i64 c.wd, .int .i64 m0, .int .u64 c.s] 24)).alloc (.cells #[.int .i64 a0, .int .i64 a1] 77)).heap[w.heap.size + 1]? = some (Obj.cells #[.int .i64 a0, .int .i64 a1] 77 (0, 0)) := heap_alloc_at _ (by simp)
 have htw := ht.below kb ht.lt
 have hv2 := hv.below kb
 obtain ⟨W, hW⟩ : ∃ W, ((w.alloc (.cells #[.int .i64 c.b, .int .i64 c.r, .int .i64 c.wd, .int .i64 m0, .int .u64 c.s] 24)).alloc (.cells #[.int .i64 a0, .int .i64 a1] 77)) = W := ⟨_, rfl⟩
 rw [hW] at x0 x1 kb htw hv2
 have ly := lt_of_block x1
 have lx := lt_of_block x0
 have HX := Lib.hid (And.intro (And.intro x0 x1) (And.intro kb (And.intro htw hv2)))
 have hb1 := R.b1
 have hb2 := R.b2
 have HWK := Lib.hid (works_any W htw)
 have HRT := Lib.hid fun w => (show Calls Tryz.prog 11 #[.agg #[.int .i64 c.b, .int .i64 c.r, .int .i64 c.wd, .int .i64 m0, .int .u64 c.s]] w fun e w' => e = .returned (.bool true) ∧ Below w.heap.size w w' by
  have h := topright c.b c.r c.wd m0 c.s w
  rw [decide_eq_true (show rightP c.b c.r c.wd 1 from R.right1)] at h
  exact h)
 have e2 : ((c.m : Nat) : Int) = 2 := by rw [hm]; rfl
 have HAC := Lib.hid fun (w1 : World) (hb : Below W.heap.size W w1) => (show Calls Tryz.prog 12 #[.agg #[.int .i64 c.b, .int .i64 c.r, .int .i64 c.wd, .int .i64 m0, .int .u64 c.s], .int .i64 2, .slice so l.length cap] w1 fun e w' => ∃ bd, e = .returned (.pointer (some ⟨bd, 0, none⟩)) ∧ ActOut c w1 l bd w' by
  have h := gacted_any c R R.s2 m0 (.slice so l.length cap) l hll w1 (htw.below hb htw.lt) ((hv2.below (hb.mono kb.size)).mono (Nat.le_trans kb.size hb.size))
  rw [e2] at h
  exact h)
 have HM := Lib.hid hm
 clear x0 x1 hv hv2 kb hm e2 htw ht
 go_enter Tryz.func5, Tryz.ntmps5
 go_wp2_with fail
 clear hW
 refine HWK.out.mono ?_
 rintro e w1 ⟨rfl, hb1w⟩
 have q0 := cell_of_heap ((hb1w.block _ lx).trans HX.out.1.1) 0 _ rfl
 have q1 := cell_of_heap ((hb1w.block _ lx).trans HX.out.1.1) 1 _ rfl
 have q2 := cell_of_heap ((hb1w.block _ lx).trans HX.out.1.1) 2 _ rfl
 have q3 := cell_of_heap ((hb1w.block _ lx).trans HX.out.1.1) 3 _ rfl
 have q4 := cell_of_heap ((hb1w.block _ lx).trans HX.out.1.1) 4 _ rfl
 go_wp2_with fail
 refine (HRT.out _).mono ?_
 rintro e w2 ⟨rfl, hb2w⟩
 have kb2 := hb1w.trans (hb2w.mono hb1w.size)
 clear hb1w hb2w q0 q1 q2 q3 q4
 have q0 := cell_of_heap ((kb2.block _ lx).trans HX.out.1.1) 0 _ rfl
 have q1 := cell_of_heap ((kb2.block _ lx).trans HX.out.1.1) 1 _ rfl
 have q2 := cell_of_heap ((kb2.block _ lx).trans HX.out.1.1) 2 _ rfl
 have q3 := cell_of_heap ((kb2.block _ lx).trans HX.out.1.1) 3 _ rfl
 have q4 := cell_of_heap ((kb2.block _ lx).trans HX.out.1.1) 4 _ rfl
 go_wp2_with fail
 refine (HAC.out _ kb2).mono ?_
 rintro e w3 ⟨bd, rfl, B0, ag, mb, sd, lb, lcap, vs, cs0, kv, fv, hz, hB0, S3, hb3⟩
 have kb3 := kb2.trans (hb3.mono kb2.size)
 have A := act_ok R hz l
 obtain ⟨st, hst⟩ : ∃ st, runS c ⟨[], fun _ => [], cs0⟩ (l.take 25) = st := ⟨_, rfl⟩
 rw [hst] at S3 A
 obtain ⟨K, F, cs⟩ := st
 dsimp only at S3 A
 have HZ := Lib.hid (And.intro hz hst)
 clear hst kb2 hb3 hB0 q0 q1 q2 q3 q4 HWK HRT HAC hz
 have HA := Lib.hid A
 have q0 := cell_of_heap ((kb3.block _ lx).trans HX.out.1.1) 0 _ rfl
 have r0 := cell_of_heap ((kb3.block _ ly).trans HX.out.1.2) 0 _ rfl
 have r1 := cell_of_heap ((kb3.block _ ly).trans HX.out.1.2) 1 _ rfl
 have h3 := handN_lt (a0 % 65536)
 have EH := handN_int (a0 % 65536)
 obtain ⟨h, hh⟩ : ∃ h, handN (a0 % 65536) = h := ⟨_, rfl⟩
 rw [hh] at h3 EH
 have hx16 := and16 a0
 have HG := Lib.hid fun w => (show Calls Tryz.prog 31 #[.int .i64 (a0 % 65536)] w fun e w' => e = .returned (.int .i64 (h : Int)) ∧ w' = w by
  have hg := ghandle_any (a0 % 65536) w
  rw [← EH] at hg
  exact hg)
 have hmid := A.mid (by decide) (by decide) h3
 have HMS := Lib.hid fun (X : World) (S : Brd B0 X bd ag mb 3 sd lb lcap vs c K F cs kv fv) => (show Calls Tryz.prog 29 #[.pointer (some ⟨bd, 0, none⟩), .int .i64 (h : Int), .agg #[.int .i64 (c.b : Int), .int .u64 0]] X fun e w' => e = .returned (.int .i64 (massI c.b 0 K (F h))) ∧ Below X.heap.size X w' from gmass_any S.r h c.b 0 h3 hmid (fun k hk => by have := A.keys k hk; have := R.keys_le' 0; omega) (by omega))
 have htot := A.total R h3
 have htb := (A.cb h h3 c.b (Nat.le_refl _)).getD (by decide) 0
 have hm12 : c.m = 1 ∨ c.m = 2 := by have := HM.out; omega
 have hq := fun (k : Int) (hp : ∀ x ∈ F h, 0 ≤ x) (h1 : 1 ≤ k) (h2 : k ≤ massI c.b 0 K (F h)) => A.quant R hm12 h3 hp h1 h2
 rw [htot] at htb
 obtain ⟨tot, htt⟩ : ∃ tot, massI c.b 0 K (F h) = tot := ⟨_, rfl⟩
 rw [htt] at htot htb HMS
 have HTT := Lib.hid (And.intro htot htt)
 have HQ := Lib.hid (And.intro hq (And.intro hmid A))
 have HT1 := Lib.hid fun w => gtext_any ((h : Int) + 1) (by omega) (by omega) w
 have s1 := text_size ((h : Int) + 1) (by omega) (by omega)
 obtain ⟨R1, hR1⟩ : ∃ R1, sOf (Lib.itoa ((h : Int) + 1)) = R1 := ⟨_, rfl⟩
 rw [hR1] at HT1 s1
 have HR1 := Lib.hid hR1
 have HS := Lib.hid (And.intro S3 kb3)
 have EHH := Lib.hid (And.intro EH hh)
 clear A S3 kb3 hmid htot htt hR1 hh EH hq
 go_wp2_with fail
 refine (HG.out _).mono ?_
 rintro e w4 ⟨rfl, rfl⟩
 go_wp2_with fail
 refine (HMS.out _ HS.out.1).mono ?_
 rintro e w5 ⟨rfl, hb5⟩
 have S5 := HS.out.1.below hb5
 have kb5 := HS.out.2.trans (hb5.mono HS.out.2.size)
 clear hb5 q0 r0 r1 hx16
 go_wp2_with fail
 refine (HT1.out _).mono ?_
 rintro e w6 ⟨rfl, hb6⟩
 have S6 := S5.below hb6
 have kb6 := kb5.trans (hb6.mono kb5.size)
 have HL := Lib.hid (show Calls Tryz.prog 13 #[.pointer (some ⟨ag, 0, none⟩), .string (⟨#[113, 117, 97, 110, 116, 105, 108, 101, 32]⟩ ++ R1 ++ ⟨#[32, 48]⟩)] w6 fun e w' => e = .returned (.tuple #[.string ⟨#[101, 114, 114, 111, 114, 32, 54]⟩, .bool true]) ∧ Below w6.heap.size w6 w' from ln_quantno S6.a R (by decide) (h + 1) (by omega) (by omega) 0 (by omega) (.inl (by decide)) _ (ln_catz [113, 117, 97, 110, 116, 105, 108, 101] ⟨#[113, 117, 97, 110, 116, 105, 108, 101, 32]⟩ R1 ((h : Int) + 1) rfl HR1.out.symm))
 have z0 := cell_of_heap S6.r.hd 0 _ rfl
 have HS6 := Lib.hid (And.intro S6 kb6)
 clear S5 kb5 S6 kb6 hb6
 go_wp2_with fail
 refine HL.out.mono ?_
 rintro e w7 ⟨rfl, hb7⟩
 have S7 := HS6.out.1.below hb7
 have kb7 := HS6.out.2.trans (hb7.mono HS6.out.2.size)
 have HT2 := Lib.hid fun w => gtext_any (max tot 0 + 1) (by omega) (by omega) w
 have s2 := text_size (max tot 0 + 1) (by omega) (by omega)
 obtain ⟨R2, hR2⟩ : ∃ R2, sOf (Lib.itoa (max tot 0 + 1)) = R2 := ⟨_, rfl⟩
 rw [hR2] at HT2 s2
 have HL2 := Lib.hid fun (k : After w7.heap.size w7) => (show Calls Tryz.prog 13 #[.pointer (some ⟨ag, 0, none⟩), .string (⟨#[113, 117, 97, 110, 116, 105, 108, 101, 32]⟩ ++ R1 ++ ⟨#[32]⟩ ++ R2)] k.w fun e w' => e = .returned (.tuple #[.string ⟨#[101, 114, 114, 111, 114, 32, 54]⟩, .bool true]) ∧ Below k.w.heap.size k.w w' from ln_quantno (S7.a.below k.h) R (by decide) (h + 1) (by omega) (by omega) (max tot 0 + 1) (by omega) (.inr (by have := HTT.out.1; omega)) _ (ln_cat2 [113, 117, 97, 110, 116, 105, 108, 101] ⟨#[113, 117, 97, 110, 116, 105, 108, 101, 32]⟩ R1 R2 ((h : Int) + 1) (max tot 0 + 1) rfl HR1.out.symm hR2.symm))
 clear z0
 have z0 := fun k : After w7.heap.size w7 => k.cell (b := bd) (o := 0) (lt_of_block S7.r.hd) (cell_of_heap S7.r.hd 0 _ rfl)
 have HS7 := Lib.hid (And.intro S7 kb7)
 clear S7 kb7 hb7 hR2 HL
 go_wp2_with fail
 refine wp_region_after w7.heap.size (by kernel_rfl) (by kernel_rfl) ?_
 repeat (go_big_quiet_step ((first | (go_at_call 14; exact after_of (Nat.le_refl _) _ (HT2.out _)) | (go_at_call 13; exact after_of (Nat.le_refl _) _ (HL2.out _)))))
 refine wpQuiet_nil ?_
 intro k
 have kB := k.h
 obtain ⟨w8, hw8⟩ : ∃ w8, k.w = w8 := ⟨_, rfl⟩
 rw [hw8] at kB
 rw [hw8]
 clear hw8 k z0 HL2 HT2
 have S8 := HS7.out.1.below kB
 have kb8 := HS7.out.2.trans (kB.mono HS7.out.2.size)
 have HS8 := Lib.hid (And.intro S8 kb8)
 clear kB
 have r1 := cell_of_heap ((kb8.block _ ly).trans HX.out.1.2) 1 _ rfl
 have HF := Lib.hid (HX.out.2.1.trans (kb8.mono HX.out.2.1.size))
 obtain ⟨pl, hpl⟩ : ∃ pl, decide (∀ x ∈ F h, 0 ≤ x) = pl := ⟨_, rfl⟩
 have HPL := Lib.hid (show Calls Tryz.prog 30 #[.pointer (some ⟨bd, 0, none⟩), .int .i64 (h : Int)] w8 fun e w' => e = .returned (.bool pl) ∧ w' = w8 by
  have hg := gplain_any S8.r h h3 HQ.out.2.1
  rw [hpl] at hg
  exact hg)
 clear S8 kb8
 by_cases ht1 : tot < 1
 ·have d1 : decide (tot < 1) = true := decide_eq_true ht1
  clear hpl
  go_wp2_with fail
  go_ret
  exact ⟨rfl, HF.out⟩
 ·have d1 : decide (tot < 1) = false := decide_eq_false ht1
  cases pl with
  | false =>
   clear hpl
   go_wp2_with fail
   refine HPL.out.mono ?_
   rintro e w9 ⟨rfl, rfl⟩
   go_wp2_with fail
   go_ret
   exact ⟨rfl, HF.out⟩
  | true =>
   have hp := of_decide_eq_true hpl
   have h62 := and62 a1
   have hz1 := Int.emod_nonneg a1 (show (4611686018427387904 : Int) ≠ 0 by decide)
   have hz2 := Int.emod_lt_of_pos a1 (show (0 : Int) < 4611686018427387904 by decide)
   obtain ⟨A1, hA1⟩ : ∃ A1, a1 % 4611686018427387904 = A1 := ⟨_, rfl⟩
   rw [hA1] at h62 hz1 hz2
   have htm := Int.tmod_eq_emod_of_nonneg (a := A1) (b := tot) hz1
   have hk1 := Int.emod_nonneg A1 (show tot ≠ 0 by omega)
   have hk2 := Int.emod_lt_of_pos A1 (show (0 : Int) < tot by omega)
   obtain ⟨k0, hk0⟩ : ∃ k0, A1 % tot = k0 := ⟨_, rfl⟩
   rw [hk0] at htm hk1 hk2
   have dz : (tot == 0) = false := by simp; omega
   obtain ⟨q1, q2, q3⟩ := HQ.out.1 (1 + k0) hp (by omega) (by rw [HTT.out.2]; omega)
   obtain ⟨kk, hkk⟩ : ∃ kk, wayI (fun l i => c.lvTold l i (cs (h + 1) l)) c.b 0 (1 + k0) = kk := ⟨_, rfl⟩
   rw [hkk] at q1 q2 q3
   have hpw : 2 ^ c.b ≤ 2 ^ 59 := Nat.pow_le_pow_right (by decide) hb2
   have HKK := Lib.hid (And.intro hkk (And.intro hp (And.intro q2 (And.intro q3 q1))))
   have hkb : kk < 576460752303423488 := by omega
   have HT3 := Lib.hid fun w => gtext_any (1 + k0) (by omega) (by omega) w
   have s3 := text_size (1 + k0) (by omega) (by omega)
   obtain ⟨R3, hR3⟩ : ∃ R3, sOf (Lib.itoa (1 + k0)) = R3 := ⟨_, rfl⟩
   rw [hR3] at HT3 s3
   have HTD := Lib.hid fun l i (hl : l ≤ c.b) => told_bdG (c := c) (by decide) (HQ.out.2.2.cb h h3 l hl) l i
   obtain ⟨X, hX⟩ : ∃ X, sOf ([107, 101, 121, 32] ++ Lib.itoa (kk : Int)) = X := ⟨_, rfl⟩
   have HL3 := Lib.hid fun (k : After w8.heap.size w8) => (show Calls Tryz.prog 13 #[.pointer (some ⟨ag, 0, none⟩), .string (⟨#[113, 117, 97, 110, 116, 105, 108, 101, 32]⟩ ++ R1 ++ ⟨#[32]⟩ ++ R3)] k.w fun e w' => e = .returned (.tuple #[.string X, .bool true]) ∧ Below k.w.heap.size k.w w' by
    have hg := ln_quant (HS8.out.1.a.below k.h) R (by decide) (h + 1) (by omega) (by omega) (1 + k0) 35184372088832 kk hkk (by omega) (by rw [HTT.out.1]; omega) (by decide) (fun l i hl hi => HTD.out l i hl) (by omega) (by omega) _ (ln_cat2 [113, 117, 97, 110, 116, 105, 108, 101] ⟨#[113, 117, 97, 110, 116, 105, 108, 101, 32]⟩ R1 R3 ((h : Int) + 1) (1 + k0) rfl HR1.out.symm hR3.symm)
    rw [hX] at hg
    exact hg)
   have HN := Lib.hid fun w => topnum_any [107, 101, 121, 32] (by decide) (kk : Int) (by omega) (by omega) w
   rw [hX] at HN
   have z0 := fun k : After w8.heap.size w8 => k.cell (b := bd) (o := 0) (lt_of_block HS8.out.1.r.hd) (cell_of_heap HS8.out.1.r.hd 0 _ rfl)
   clear hpl hp hA1 hk0 hkk q1 q2 q3 hR3 hX
   go_wp2_with fail
   refine HPL.out.mono ?_
   rintro e w9 ⟨rfl, rfl⟩
   go_wp2_with fail
   refine wp_region_after w9.heap.size (by kernel_rfl) (by kernel_rfl) ?_
   repeat (go_big_quiet_step ((first | (go_at_call 14; exact after_of (Nat.le_refl _) _ (HT3.out _)) | (go_at_call 13; exact after_of (Nat.le_refl _) _ (HL3.out _)))))
   refine wpQuiet_nil ?_
   intro k
   have kB := k.h
   obtain ⟨wa, hwa⟩ : ∃ wa, k.w = wa := ⟨_, rfl⟩
   rw [hwa] at kB
   rw [hwa]
   clear hwa k z0 HL3 HT3 r1
   have Sa := HS8.out.1.below kB
   have kba := HS8.out.2.trans (kB.mono HS8.out.2.size)
   have HSa := Lib.hid (And.intro Sa kba)
   clear kB
   go_wp2_with fail
   refine (HN.out _).mono ?_
   rintro e wb ⟨rfl, rfl⟩
   have p1 := cell_of_heap Sa.r.hd 1 _ rfl
   have p2 := cell_of_heap Sa.r.hd 2 _ rfl
   have p3 := cell_of_heap Sa.r.hd 3 _ rfl
   have p4 := cell_of_heap Sa.r.hd 4 _ rfl
   have p5 := cell_of_heap Sa.r.hd 5 _ rfl
   have HK := Lib.hid (show Calls Tryz.prog 35 #[.agg #[.int .i64 c.b, .int .i64 c.r, .int .i64 c.wd, .int .i64 c.m, .int .u64 c.s], .int .i64 0] wb fun e w' => e = .returned (.int .u64 (c.keys 0 : Nat)) ∧ Below wb.heap.size wb w' from gkeys_any c R 0 (Nat.zero_le _) wb)
   have hkeys : c.keys 0 = 2 ^ c.b := by unfold Cfg.keys; simp
   have hkk0 : kk < c.keys 0 := by rw [hkeys]; exact HKK.out.2.2.2.2
   have hkk9 := R.keys_le' 0
   obtain ⟨nk, hnk⟩ : ∃ nk, c.keys 0 = nk := ⟨_, rfl⟩
   rw [hnk] at HK hkk0 hkk9
   have dk1 : decide (nk ≤ kk) = false := decide_eq_false (by omega)
   have dk2 : decide ((nk : Int) ≤ (kk : Int)) = false := decide_eq_false (by omega)
   have dk3 : decide ((kk : Int) < 0) = false := decide_eq_false (by omega)
   clear Sa kba hkeys
   go_wp2_with fail
   refine HK.out.mono ?_
   rintro e wc ⟨rfl, hbc⟩
   have Sc := HSa.out.1.below hbc
   have kbc := HSa.out.2.trans (hbc.mono HSa.out.2.size)
   have q0 := cell_of_heap ((kbc.block _ lx).trans HX.out.1.1) 0 _ rfl
   have HSc := Lib.hid (And.intro Sc kbc)
   have HOVB := Lib.hid fun L (hL : L ≤ c.b) => over_bd (fun l i => c.lvTold l i (cs (h + 1) l)) K (F h) c.b 35184372088832 (by decide) (fun l i hl hi => ⟨HQ.out.2.2.low R hm12 h3 HKK.out.2.1 l i hl hi, by have h1 := HTD.out l i hl; have h2 : 0 ≤ massI l i K (F h) := sumIf_nonneg _ _ _ HKK.out.2.1; omega⟩) L kk hL HKK.out.2.2.2.2
   obtain ⟨td, htd⟩ : ∃ td : Nat → Nat → Int, (fun l i => c.lvTold l i (cs (h + 1) l)) = td := ⟨_, rfl⟩
   rw [htd] at HOVB
   have HTE := Lib.hid htd
   have hov0 := (HOVB.out c.b (Nat.le_refl _))
   obtain ⟨ov, hov⟩ : ∃ ov, overI td K (F h) c.b kk = ov := ⟨_, rfl⟩
   rw [hov] at hov0
   have HOV := Lib.hid hov
   clear p1 p2 p3 p4 p5 HK hbc Sc kbc htd hov
   go_wp2_with fail
   go_loopw [22, 23, 24, 25, 26] (fun a b _ _ _ wr => ∃ j : Nat, j ≤ c.b ∧ a = .int .i64 (ov - overI td K (F h) j kk) ∧ b = .int .i64 (j : Int) ∧ Below wc.heap.size wc wr) (fun _ b _ _ _ _ => (intOf b).toNat)
   case atStart => exact ⟨c.b, Nat.le_refl _, by rw [HOV.out]; simp, rfl, Below.refl _ _⟩
   case round =>
    clear q0
    obtain ⟨j, hj, rfl, rfl, hB⟩ := hrel
    have hoj := HOVB.out j hj
    by_cases hj0 : 0 < j
    ·obtain ⟨t, rfl⟩ : ∃ t, j = t + 1 := ⟨j - 1, by omega⟩
     have c0 : decide ((0 : Int) < ((t + 1 : Nat) : Int)) = true := by simp
     have hstep : overI td K (F h) (t + 1) kk = overI td K (F h) t kk + (td t (kk / 2 ^ (t + 1) * 2) - massI t (kk / 2 ^ (t + 1) * 2) K (F h)) := rfl
     have hot := HOVB.out t (by omega)
     have hqb : kk / 2 ^ (t + 1) * 2 < c.keys t := by
      unfold Cfg.keys
      have h1 : kk / 2 ^ (t + 1) < 2 ^ (c.b - (t + 1)) := by
       apply Nat.div_lt_of_lt_mul
       rw [← Nat.pow_add, show t + 1 + (c.b - (t + 1)) = c.b by omega]; exact HKK.out.2.2.2.2
      rw [show c.b - t = (c.b - (t + 1)) + 1 by omega, Nat.pow_succ (n := 2) (m := c.b - (t + 1))]
      obtain ⟨q, hq⟩ : ∃ q, kk / 2 ^ (t + 1) = q := ⟨_, rfl⟩
      rw [hq] at h1 ⊢
      omega
     have hq1 : ((kk : Int) / 2 ^ (t + 1)) = ((kk / 2 ^ (t + 1) : Nat) : Int) := by simp
     obtain ⟨q, hq⟩ : ∃ q, kk / 2 ^ (t + 1) = q := ⟨_, rfl⟩
     rw [hq] at hq1 hqb hstep
     have hwq : IntKind.u64.wrap ((q : Int) * 2) = ((q * 2 : Nat) : Int) := by
      have h1 := R.keys_le' t
      rw [IntKind.wrap_u64, Int.emod_eq_of_lt (by omega) (by omega)]; simp
     have htl := HTD.out t (q * 2) (by omega)
     have hml : 0 ≤ massI t (q * 2) K (F h) := sumIf_nonneg _ _ _ HKK.out.2.1
     have hlw := HQ.out.2.2.low R hm12 h3 HKK.out.2.1 t (q * 2) (by omega) hqb
     have HMS2 := Lib.hid fun (X : World) (S : Brd B0 X bd ag mb 3 sd lb lcap vs c K F cs kv fv) => gmass_any S.r h t (q * 2) h3 HQ.out.2.1 (fun k hk => by have := HQ.out.2.2.keys k hk; have := R.keys_le' 0; omega) (by omega)
     have HPT := Lib.hid fun (X : World) (S : Brd B0 X bd ag mb 3 sd lb lcap vs c K F cs kv fv) => gpoint_any S R (by decide) h (by omega) t (q * 2) (by omega) hqb (by omega)
     have htq : c.lvTold t (q * 2) (cs (h + 1) t) = td t (q * 2) := congrFun (congrFun HTE.out t) (q * 2)
     rw [htq] at HPT htl hlw
     have ka : Below wr.heap.size wr (wr.alloc (Obj.cells #[Value.int IntKind.i64 t, Value.int IntKind.u64 ((q * 2 : Nat) : Int)] 55)) := (Below.refl _ _).alloc (Nat.le_refl _) _
     have xa : (wr.alloc (Obj.cells #[Value.int IntKind.i64 t, Value.int IntKind.u64 ((q * 2 : Nat) : Int)] 55)).heap[wr.heap.size]? = some (Obj.cells #[Value.int IntKind.i64 t, Value.int IntKind.u64 ((q * 2 : Nat) : Int)] 55 (0, 0)) := heap_alloc_at _ rfl
     obtain ⟨pn, hpn⟩ : ∃ pn, q * 2 = pn := ⟨_, rfl⟩
     rw [hpn] at hwq htl hml hlw HMS2 HPT ka xa hstep
     obtain ⟨tv, htv⟩ : ∃ tv, td t pn = tv := ⟨_, rfl⟩
     obtain ⟨mv, hmv⟩ : ∃ mv, massI t pn K (F h) = mv := ⟨_, rfl⟩
     obtain ⟨o1, ho1⟩ : ∃ o1, overI td K (F h) (t + 1) kk = o1 := ⟨_, rfl⟩
     obtain ⟨o0, ho0⟩ : ∃ o0, overI td K (F h) t kk = o0 := ⟨_, rfl⟩
     rw [htv] at HPT htl hlw hstep
     rw [hmv] at HMS2 hml hlw hstep
     rw [ho1] at hoj hstep ⊢
     rw [ho0] at hot hstep
     have HJJ := Lib.hid (And.intro hstep (And.intro ho0 (And.intro hB (And.intro ka xa))))
     obtain ⟨Xa, hXa⟩ : ∃ Xa, wr.alloc (Obj.cells #[Value.int IntKind.i64 t, Value.int IntKind.u64 (pn : Int)] 55) = Xa := ⟨_, rfl⟩
     rw [hXa] at HJJ xa
     have q0 := cell_of_heap xa 0 _ rfl
     have q1 := cell_of_heap xa 1 _ rfl
     have lxa := lt_of_block xa
     have HO := Lib.hid (And.intro hot hoj)
     have ob1 := hoj.1
     have ob2 : o1 ≤ 35184372088832 * 60 := by omega
     clear hstep hpn htv hmv ho1 ho0 hB ka xa htq hoj hot
     go_wp2_with fail
     clear hXa
     have SX := (HSc.out.1.below HJJ.out.2.2.1).below HJJ.out.2.2.2.1
     refine (HPT.out _ SX).mono ?_
     rintro e wd ⟨rfl, hbd⟩
     have Sd := SX.below hbd
     replace q0 := (hbd.cell (p := ⟨wr.heap.size, 0, none⟩) lxa).trans q0
     replace q1 := (hbd.cell (p := ⟨wr.heap.size, 1, none⟩) lxa).trans q1
     have HD := Lib.hid (And.intro Sd hbd)
     clear SX Sd hbd
     go_wp2_with fail
     refine (HMS2.out _ HD.out.1).mono ?_
     rintro e we ⟨rfl, hbe⟩
     have HE := Lib.hid hbe
     clear hbe q0 q1
     go_wp2_with fail
     go_roundw
     case rel =>
      have hb1 := HJJ.out.2.2.1
      have k2 := HJJ.out.2.2.2.1
      have k3 := HD.out.2
      have k4 := HE.out
      have hst := HJJ.out.1
      have HR : ∃ j : Nat, j ≤ c.b ∧ Value.int IntKind.i64 (ov - o1 + tv - mv) = .int .i64 (ov - overI td K (F h) j kk) ∧ Value.int IntKind.i64 (t : Int) = .int .i64 (j : Int) ∧ Below wc.heap.size wc we := ⟨t, by omega, by rw [HJJ.out.2.1]; congr 1; omega, rfl, ((hb1.trans (k2.mono hb1.size)).trans (k3.mono (Nat.le_trans hb1.size k2.size))).trans (k4.mono (Nat.le_trans (Nat.le_trans hb1.size k2.size) k3.size))⟩
      first | exact HR | ((repeat apply Exists.intro); exact ⟨HR, rfl⟩)
     case measure => simp [intOf]
    ·obtain rfl : j = 0 := by omega
     have c0 : decide ((0 : Int) < ((0 : Nat) : Int)) = false := by simp
     have hz : overI td K (F h) 0 kk = 0 := rfl
     rw [hz, Int.sub_zero]
     have Sr := HSc.out.1.below hB
     have HSr := Lib.hid (And.intro Sr (HSc.out.2.trans (hB.mono HSc.out.2.size)))
     have hin := hov0
     have hov2 : ov ≤ 35184372088832 * 60 := by omega
     have HFF := Lib.hid (HX.out.2.1.trans (HSr.out.2.mono HX.out.2.1.size))
     have hfl := HSr.out.1.r.fl h h3
     have hKl : K.length ≤ 25 := HQ.out.2.2.few
     have hmid2 := HQ.out.2.1
     obtain ⟨ko, kc, hkv⟩ := HSr.out.1.r.kform
     have p6 := cell_of_heap HSr.out.1.r.hd 6 _ rfl
     rw [hkv] at p6
     have hU1 := fun i => hmid2.sum (fun k => decide (k < kk)) K i
     have hU2 := fun i => hmid2.sum (fun k => decide (k < kk + 1)) K i
     have HU := Lib.hid (And.intro hU1 hU2)
     have HFL := Lib.hid (And.intro hfl hkv)
     clear hB hoj hz Sr hU1 hU2 hfl hkv hmid2
     go_wp2_with fail
     go_loop [27, 28, 29] (fun a b i => ∃ k : Nat, k ≤ K.length ∧ a = .int .i64 (sumIf (fun k => decide (k < kk)) (K.take k) ((F h).take k)) ∧ b = .int .i64 (sumIf (fun k => decide (k < kk + 1)) (K.take k) ((F h).take k)) ∧ i = .int .i64 (k : Int)) (fun _ _ i => K.length - (intOf i).toNat)
     case atStart => exact ⟨0, by omega, by simp [sumIf], by simp [sumIf], rfl⟩
     case round =>
      obtain ⟨k, hk, rfl, rfl, rfl⟩ := hrel
      have hs1 := HU.out.1 k
      have hs2 := HU.out.2 k
      by_cases hlt : k < K.length
      ·have hst1 := sumIf_take (fun k => decide (k < kk)) K (F h) HFL.out.1.symm k hlt
       have hst2 := sumIf_take (fun k => decide (k < kk + 1)) K (F h) HFL.out.1.symm k hlt
       obtain ⟨g, cap2, hv, hc⟩ := HSr.out.1.r.key hlt
       rw [HFL.out.2] at hv
       cases hv
       obtain ⟨gf, capf, hvf, hcf⟩ := HSr.out.1.r.val h3 hlt
       have qF := HSr.out.1.r.cellF h3
       rw [hvf] at qF
       have hFx := HQ.out.2.1.at k
       have c0 : decide ((k : Int) < K.length) = true := by simp; omega
       have hkx : K.getD k 0 < c.keys 0 := by
        rw [List.getD_eq_getElem?_getD, List.getElem?_eq_getElem hlt]; exact HQ.out.2.2.keys _ (List.getElem_mem hlt)
       have hk9 := R.keys_le' 0
       obtain ⟨x, hx⟩ : ∃ x, K.getD k 0 = x := ⟨_, rfl⟩
       obtain ⟨y, hy⟩ : ∃ y, (F h).getD k 0 = y := ⟨_, rfl⟩
       obtain ⟨s1', hs1'⟩ : ∃ s, sumIf (fun k => decide (k < kk)) (K.take k) ((F h).take k) = s := ⟨_, rfl⟩
       obtain ⟨s2', hs2'⟩ : ∃ s, sumIf (fun k => decide (k < kk + 1)) (K.take k) ((F h).take k) = s := ⟨_, rfl⟩
       rw [hx] at hc hkx hst1 hst2
       rw [hy] at hcf hFx hst1 hst2
       rw [hs1'] at hst1 hs1 ⊢
       rw [hs2'] at hst2 hs2 ⊢
       obtain ⟨n, hn⟩ : ∃ n, K.length = n := ⟨_, rfl⟩
       rw [hn] at hlt p6 qF c0
       have e1 : decide ((x : Int) < (kk : Int)) = decide (x < kk) := by apply decide_eq_decide.2; omega
       have e2 : decide ((x : Int) ≤ (kk : Int)) = decide (x < kk + 1) := by apply decide_eq_decide.2; omega
       have e3 : decide (x ≤ kk) = decide (x < kk + 1) := by apply decide_eq_decide.2; omega
       obtain ⟨b1, hb1'⟩ : ∃ b1, decide (x < kk) = b1 := ⟨_, rfl⟩
       obtain ⟨b2, hb2'⟩ : ∃ b2, decide (x < kk + 1) = b2 := ⟨_, rfl⟩
       rw [hb1'] at e1 hst1
       rw [hb2'] at e2 e3 hst2
       clear hb2'
       have HT9 := Lib.hid (And.intro hst1 (And.intro hst2 hn))
       clear hst1 hst2 hx hy hs1' hs2' hvf hn
       cases b1 <;> cases b2
       ·go_wp2_with fail
        obtain ⟨hst1, hst2, hn⟩ := HT9.out
        have HR : ∃ k' : Nat, k' ≤ K.length ∧ Value.int IntKind.i64 (s1') = .int .i64 (sumIf (fun k => decide (k < kk)) (K.take k') ((F h).take k')) ∧ Value.int IntKind.i64 (s2') = .int .i64 (sumIf (fun k => decide (k < kk + 1)) (K.take k') ((F h).take k')) ∧ Value.int IntKind.i64 ((k : Int) + 1) = .int .i64 (k' : Int) := ⟨k + 1, by omega, by rw [hst1]; simp, by rw [hst2]; simp, by simp⟩
        exact ⟨HR, by simp only [intOf]; omega⟩
       ·go_wp2_with fail
        obtain ⟨hst1, hst2, hn⟩ := HT9.out
        have HR : ∃ k' : Nat, k' ≤ K.length ∧ Value.int IntKind.i64 (s1') = .int .i64 (sumIf (fun k => decide (k < kk)) (K.take k') ((F h).take k')) ∧ Value.int IntKind.i64 (s2' + y) = .int .i64 (sumIf (fun k => decide (k < kk + 1)) (K.take k') ((F h).take k')) ∧ Value.int IntKind.i64 ((k : Int) + 1) = .int .i64 (k' : Int) := ⟨k + 1, by omega, by rw [hst1]; simp, by rw [hst2]; simp, by simp⟩
        exact ⟨HR, by simp only [intOf]; omega⟩
       ·go_wp2_with fail
        obtain ⟨hst1, hst2, hn⟩ := HT9.out
        have HR : ∃ k' : Nat, k' ≤ K.length ∧ Value.int IntKind.i64 (s1' + y) = .int .i64 (sumIf (fun k => decide (k < kk)) (K.take k') ((F h).take k')) ∧ Value.int IntKind.i64 (s2') = .int .i64 (sumIf (fun k => decide (k < kk + 1)) (K.take k') ((F h).take k')) ∧ Value.int IntKind.i64 ((k : Int) + 1) = .int .i64 (k' : Int) := ⟨k + 1, by omega, by rw [hst1]; simp, by rw [hst2]; simp, by simp⟩
        exact ⟨HR, by simp only [intOf]; omega⟩
       ·go_wp2_with fail
        obtain ⟨hst1, hst2, hn⟩ := HT9.out
        have HR : ∃ k' : Nat, k' ≤ K.length ∧ Value.int IntKind.i64 (s1' + y) = .int .i64 (sumIf (fun k => decide (k < kk)) (K.take k') ((F h).take k')) ∧ Value.int IntKind.i64 (s2' + y) = .int .i64 (sumIf (fun k => decide (k < kk + 1)) (K.take k') ((F h).take k')) ∧ Value.int IntKind.i64 ((k : Int) + 1) = .int .i64 (k' : Int) := ⟨k + 1, by omega, by rw [hst1]; simp, by rw [hst2]; simp, by simp⟩
        exact ⟨HR, by simp only [intOf]; omega⟩
      ·obtain rfl : k = K.length := by omega
       have c0 : decide ((K.length : Int) < K.length) = false := by simp
       have hFt : (F h).take K.length = F h := by rw [← HFL.out.1, List.take_length]
       rw [List.take_length, hFt] at hs1 hs2 ⊢
       clear hFt
       have g1 := HKK.out.2.2.1
       have g2 := HKK.out.2.2.2.1
       unfold lessS at g1 g2
       rw [HTE.out, HOV.out] at g2
       obtain ⟨u1, hu1⟩ : ∃ u, sumIf (fun k => decide (k < kk)) K (F h) = u := ⟨_, rfl⟩
       obtain ⟨u2, hu2⟩ : ∃ u, sumIf (fun k => decide (k < kk + 1)) K (F h) = u := ⟨_, rfl⟩
       rw [hu1] at hs1 g1 ⊢
       rw [hu2] at hs2 g2 ⊢
       have f1 : decide (u1 < 1 + k0) = true := decide_eq_true g1
       have f2 : decide (1 + k0 ≤ u2 + ov) = true := decide_eq_true g2
       clear g1 g2 hu1 hu2
       go_wp2_with fail
       go_ret
       exact ⟨rfl, HFF.out⟩
end Go.Proofs.YtbhppbeepmllaaaGreatDoor
