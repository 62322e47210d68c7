import Derived.Test.YtbhppbeepmllaaaGreatDoorWQM0830e4da2
import Derived.Test.YtbhppbeepmllaaaGreatDoorM31faf534
set_option linter.unusedVariables false
set_option linter.unusedSimpArgs false
set_option maxRecDepth 100000
set_option maxHeartbeats 2000000
namespace Go.Proofs.YtbhppbeepmllaaaGreatDoor
open Go.RowKit

theorem others_near (c : Cfg) (l p : Nat) (K : List Nat) (F : List Int) (far : Int) : nearN far (othersL c l p K F) = ((List.range c.r).filter fun row => decide (-far ≤ otherI c l p row K F) && decide (otherI c l p row K F ≤ far)).length := by
 unfold nearN othersL
 rw [List.filter_map, List.length_map]
 rfl
theorem law_median_c (c : Cfg) (R : c.Ok) (m0 : Int) (hm : c.m = 3) (a0 : Nat) (ha0 : a0 < 18446744073709551616) (a1 : Nat) (ha1 : a1 < 18446744073709551616) (a2 : Nat) (ha2 : a2 < 18446744073709551616) (a3 : Nat) (ha3 : a3 < 18446744073709551616) (v : Value) (l : List Opr) (hll : l.length ≤ 9223372036854775807) (w : World) (ht : Tab w) (hv : OpsAt w w.heap.size v l) :
  Calls Tryz.prog 8 #[.agg #[.int .i64 c.b, .int .i64 c.r, .int .i64 c.wd, .int .i64 m0, .int .u64 c.s], v, .agg #[.int .u64 (a0 : Int), .int .u64 (a1 : Int), .int .u64 (a2 : Int), .int .u64 (a3 : Int)]] w fun e w' => e = .returned (.bool true) ∧ Below w.heap.size w w' := by
 obtain ⟨so, cap, hv1, _⟩ := id hv
 subst hv1
 have kb : Below w.heap.size w ((w.alloc (.cells #[.int .i64 c.b, .int .i64 c.r, .int .i64 c.wd, .int .i64 m0, .int .u64 c.s] 24)).alloc (.cells #[.int .u64 (a0 : Int), .int .u64 (a1 : Int), .int .u64 (a2 : Int), .int .u64 (a3 : Int)] 88)) := ((Below.refl _ _).alloc (Nat.le_refl _) _).alloc (by simp) _
 have x0 : ((w.alloc (.cells #[.int .i64 c.b, .int .i64 c.r, .int .i64 c.wd, .int .i64 m0, .int .u64 c.s] 24)).alloc (.cells #[.int .u64 (a0 : Int), .int .u64 (a1 : Int), .int .u64 (a2 : Int), .int .u64 (a3 : Int)] 88)).heap[w.heap.size]? = some (Obj.cells #[.int .i64 c.b, .int .i64 c.r, .int .i64 c.wd, .int .i64 m0, .int .u64 c.s] 24 (0, 0)) := heap_alloc_under _ (heap_alloc_at _ rfl)
 have x1 : ((w.alloc (.cells #[.int .i64 c.b, .int .i64 c.r, .int .i64 c.wd, .int .i64 m0, .int .u64 c.s] 24)).alloc (.cells #[.int .u64 (a0 : Int), .int .u64 (a1 : Int), .int .u64 (a2 : Int), .int .u64 (a3 : Int)] 88)).heap[w.heap.size + 1]? = some (Obj.cells #[.int .u64 (a0 : Int), .int .u64 (a1 : Int), .int .u64 (a2 : Int), .int .u64 (a3 : Int)] 88 (0, 0)) := heap_alloc_at _ (by simp)
 have htw := ht.below kb ht.lt
 have hv2 := hv.below kb
 obtain ⟨W, hW⟩ : ∃ W, ((w.alloc (.cells #[.int .i64 c.b, .int .i64 c.r, .int .i64 c.wd, .int .i64 m0, .int .u64 c.s] 24)).alloc (.cells #[.int .u64 (a0 : Int), .int .u64 (a1 : Int), .int .u64 (a2 : Int), .int .u64 (a3 : Int)] 88)) = W := ⟨_, rfl⟩
 rw [hW] at x0 x1 kb htw hv2
 have ly := lt_of_block x1
 have lx := lt_of_block x0
 have HX := Lib.hid (And.intro (And.intro x0 x1) (And.intro kb (And.intro htw hv2)))
 have hb1 := R.b1
 have hb2 := R.b2
 have HWK := Lib.hid (works_any W htw)
 have HRT := Lib.hid fun w => (show Calls Tryz.prog 11 #[.agg #[.int .i64 c.b, .int .i64 c.r, .int .i64 c.wd, .int .i64 m0, .int .u64 c.s]] w fun e w' => e = .returned (.bool true) ∧ Below w.heap.size w w' by
  have h := topright c.b c.r c.wd m0 c.s w
  rw [decide_eq_true (show rightP c.b c.r c.wd 1 from R.right1)] at h
  exact h)
 have e2 : ((c.m : Nat) : Int) = 3 := by rw [hm]; rfl
 have HAC := Lib.hid fun (w1 : World) (hb : Below W.heap.size W w1) => (show Calls Tryz.prog 12 #[.agg #[.int .i64 c.b, .int .i64 c.r, .int .i64 c.wd, .int .i64 m0, .int .u64 c.s], .int .i64 3, .slice so l.length cap] w1 fun e w' => ∃ bd, e = .returned (.pointer (some ⟨bd, 0, none⟩)) ∧ ActOut c w1 l bd w' by
  have h := gacted_any c R R.s2 m0 (.slice so l.length cap) l hll w1 (htw.below hb htw.lt) ((hv2.below (hb.mono kb.size)).mono (Nat.le_trans kb.size hb.size))
  rw [e2] at h
  exact h)
 have HM := Lib.hid hm
 clear x0 x1 hv hv2 kb hm e2 htw ht
 go_enter Tryz.func8, Tryz.ntmps8
 go_wp2_with fail
 clear hW
 refine HWK.out.mono ?_
 rintro e w1 ⟨rfl, hb1w⟩
 have q0 := cell_of_heap ((hb1w.block _ lx).trans HX.out.1.1) 0 _ rfl
 have q1 := cell_of_heap ((hb1w.block _ lx).trans HX.out.1.1) 1 _ rfl
 have q2 := cell_of_heap ((hb1w.block _ lx).trans HX.out.1.1) 2 _ rfl
 have q3 := cell_of_heap ((hb1w.block _ lx).trans HX.out.1.1) 3 _ rfl
 have q4 := cell_of_heap ((hb1w.block _ lx).trans HX.out.1.1) 4 _ rfl
 go_wp2_with fail
 refine (HRT.out _).mono ?_
 rintro e w2 ⟨rfl, hb2w⟩
 have kb2 := hb1w.trans (hb2w.mono hb1w.size)
 clear hb1w hb2w q0 q1 q2 q3 q4
 have q0 := cell_of_heap ((kb2.block _ lx).trans HX.out.1.1) 0 _ rfl
 have q1 := cell_of_heap ((kb2.block _ lx).trans HX.out.1.1) 1 _ rfl
 have q2 := cell_of_heap ((kb2.block _ lx).trans HX.out.1.1) 2 _ rfl
 have q3 := cell_of_heap ((kb2.block _ lx).trans HX.out.1.1) 3 _ rfl
 have q4 := cell_of_heap ((kb2.block _ lx).trans HX.out.1.1) 4 _ rfl
 go_wp2_with fail
 refine (HAC.out _ kb2).mono ?_
 rintro e w3 ⟨bd, rfl, B0, ag, mb, sd, lb, lcap, vs, cs0, kv, fv, hz, hB0, S3, hb3⟩
 have kb3 := kb2.trans (hb3.mono kb2.size)
 have A := act_ok R hz l
 obtain ⟨st, hst⟩ : ∃ st, runS c ⟨[], fun _ => [], cs0⟩ (l.take 25) = st := ⟨_, rfl⟩
 rw [hst] at S3 A
 obtain ⟨K, F, cs⟩ := st
 dsimp only at S3 A
 have HZ := Lib.hid (And.intro hz hst)
 clear hst kb2 hb3 hB0 q0 q1 q2 q3 q4 HWK HRT HAC hz
 have HA := Lib.hid A
 have r0 := cell_of_heap ((kb3.block _ ly).trans HX.out.1.2) 0 _ rfl
 have r1 := cell_of_heap ((kb3.block _ ly).trans HX.out.1.2) 1 _ rfl
 have r2 := cell_of_heap ((kb3.block _ ly).trans HX.out.1.2) 2 _ rfl
 have r3 := cell_of_heap ((kb3.block _ ly).trans HX.out.1.2) 3 _ rfl
 have h3 : a0 % 3 < 3 := Nat.mod_lt _ (by decide)
 have hf3 : a3 % 1073741824 < 1073741824 := Nat.mod_lt _ (by decide)
 obtain ⟨h, hh⟩ : ∃ h, a0 % 3 = h := ⟨_, rfl⟩
 obtain ⟨far, hfar⟩ : ∃ far, a3 % 1073741824 = far := ⟨_, rfl⟩
 rw [hh] at h3
 rw [hfar] at hf3
 have hw0 : (a0 : Int) % 3 = (h : Int) := by rw [← hh]; simp
 have hw3 : (a3 : Int) % 1073741824 = (far : Int) := by rw [← hfar]; simp
 have hmid := A.mid (by decide) (by decide) h3
 have HPR := Lib.hid (gprefix_any S3.r R A.keys (by have := A.few; omega) a1 a2 (a0 / 256) ha1 ha2 (by omega))
 have hL := preL_le c a1
 have hpk := prefix_lt c hL (preK_lt c A.keys a2 (a0 / 256))
 obtain ⟨L, hLe⟩ : ∃ L, preL c a1 = L := ⟨_, rfl⟩
 rw [hLe] at hL hpk HPR
 obtain ⟨p, hpe⟩ : ∃ p, preK c K a2 (a0 / 256) / 2 ^ L = p := ⟨_, rfl⟩
 rw [hpe] at hpk HPR
 have hsh : ((a0 : Int) / 256) = ((a0 / 256 : Nat) : Int) := by simp
 obtain ⟨q8, hq8⟩ : ∃ q8, a0 / 256 = q8 := ⟨_, rfl⟩
 rw [hq8] at hsh HPR
 have hkl := R.keys_le' L
 have htl := A.told_bd (by decide) h3 L p hL
 have hmb := mass_bd (A.fb h h3) (by rw [A.len h h3]; exact A.few) K L p
 have HMS := Lib.hid fun (X : World) (S : Brd B0 X bd ag mb 3 sd lb lcap vs c K F cs kv fv) => gmass_any S.r h L p h3 hmid (fun k hk => by have := A.keys k hk; have := R.keys_le' 0; omega) (by omega)
 have HPT := Lib.hid fun (X : World) (S : Brd B0 X bd ag mb 3 sd lb lcap vs c K F cs kv fv) => gpoint_any S R (by decide) h (by omega) L p hL hpk (by omega)
 have HOT := Lib.hid fun (X : World) (S : Brd B0 X bd ag mb 3 sd lb lcap vs c K F cs kv fv) => gothers_any S.r R R.s2 h L p h3 hmid A.keys hL hpk
 have HEX := Lib.hid fun w => gexact_any c R L hL w
 have hlin := A.lin (by have := HM.out; omega) h h3
 have HT := Lib.hid (And.intro (fun he => (lin_exact hlin L p hL hpk he : (cs (h + 1) L).getD p 0 = massI L p K (F h))) (fun he hn => told_median hlin R HM.out A.keys L p hL hpk he (far : Int) hn))
 have HS := Lib.hid (And.intro S3 kb3)
 have HHH := Lib.hid hh
 clear A S3 hmid hlin hh hfar hLe hpe hq8
 go_wp2_with fail
 refine HPR.out.mono ?_
 rintro e wp ⟨rfl, hbp⟩
 have Sp := HS.out.1.below hbp
 have kp := HS.out.2.trans (hbp.mono HS.out.2.size)
 have ka : Below wp.heap.size wp (wp.alloc (Obj.cells #[Value.int IntKind.i64 L, Value.int IntKind.u64 (p : Int)] 55)) := (Below.refl _ _).alloc (Nat.le_refl _) _
 have xa : (wp.alloc (Obj.cells #[Value.int IntKind.i64 L, Value.int IntKind.u64 (p : Int)] 55)).heap[wp.heap.size]? = some (Obj.cells #[Value.int IntKind.i64 L, Value.int IntKind.u64 (p : Int)] 55 (0, 0)) := heap_alloc_at _ rfl
 obtain ⟨Xa, hXa⟩ : ∃ Xa, wp.alloc (Obj.cells #[Value.int IntKind.i64 L, Value.int IntKind.u64 (p : Int)] 55) = Xa := ⟨_, rfl⟩
 rw [hXa] at ka xa
 have Sa := Sp.below ka
 have kA := kp.trans (ka.mono kp.size)
 have p0 := cell_of_heap xa 0 _ rfl
 have p1 := cell_of_heap xa 1 _ rfl
 have lxa := lt_of_block xa
 clear r0 r1 r2 r3
 have r3 := cell_of_heap ((kA.block _ ly).trans HX.out.1.2) 3 _ rfl
 have HSa := Lib.hid (And.intro Sa kA)
 clear Sp kp ka Sa kA hbp xa
 go_wp2_with fail
 clear hXa
 refine (HPT.out _ HSa.out.1).mono ?_
 rintro e wb ⟨rfl, hbb⟩
 have Sb := HSa.out.1.below hbb
 have kB := HSa.out.2.trans (hbb.mono HSa.out.2.size)
 replace p0 := (hbb.cell (p := ⟨wp.heap.size, 0, none⟩) lxa).trans p0
 replace p1 := (hbb.cell (p := ⟨wp.heap.size, 1, none⟩) lxa).trans p1
 replace lxa := Nat.lt_of_lt_of_le lxa hbb.size
 have z1 := fun k : After wb.heap.size wb => k.cell (b := bd) (o := 1) (lt_of_block Sb.r.hd) (cell_of_heap Sb.r.hd 1 _ rfl)
 have z2 := fun k : After wb.heap.size wb => k.cell (b := bd) (o := 2) (lt_of_block Sb.r.hd) (cell_of_heap Sb.r.hd 2 _ rfl)
 have z3 := fun k : After wb.heap.size wb => k.cell (b := bd) (o := 3) (lt_of_block Sb.r.hd) (cell_of_heap Sb.r.hd 3 _ rfl)
 have z4 := fun k : After wb.heap.size wb => k.cell (b := bd) (o := 4) (lt_of_block Sb.r.hd) (cell_of_heap Sb.r.hd 4 _ rfl)
 have z5 := fun k : After wb.heap.size wb => k.cell (b := bd) (o := 5) (lt_of_block Sb.r.hd) (cell_of_heap Sb.r.hd 5 _ rfl)
 have za := fun k : After wb.heap.size wb => k.cell (b := wp.heap.size) (o := 0) lxa p0
 have HSb := Lib.hid (And.intro (And.intro Sb kB) (And.intro p0 p1))
 obtain ⟨tv, htv⟩ : ∃ tv, c.lvTold L p (cs (h + 1) L) = tv := ⟨_, rfl⟩
 rw [htv] at htl ⊢
 obtain ⟨mv, hmv⟩ : ∃ mv, massI L p K (F h) = mv := ⟨_, rfl⟩
 rw [hmv] at hmb HMS
 have HTV := Lib.hid (And.intro htv hmv)
 obtain ⟨ex, hex⟩ : ∃ ex, decide (c.keys L ≤ c.wd) = ex := ⟨_, rfl⟩
 rw [hex] at HEX
 have HEE := Lib.hid hex
 clear Sb kB hbb p0 p1 htv hmv hex r3
 go_wp2_with fail
 refine wp_region_after wb.heap.size (by kernel_rfl) (by kernel_rfl) ?_
 repeat (go_big_quiet_step ((go_at_call 20; exact after_of (Nat.le_refl _) _ (HEX.out _))))
 refine wpQuiet_nil ?_
 intro k
 have kC := k.h
 obtain ⟨wc, hwc⟩ : ∃ wc, k.w = wc := ⟨_, rfl⟩
 rw [hwc] at kC
 rw [hwc]
 clear hwc k z1 z2 z3 z4 z5 za
 have Sc := HSb.out.1.1.below kC
 have kbc := HSb.out.1.2.trans (kC.mono HSb.out.1.2.size)
 have p0 := (kC.cell (p := ⟨wp.heap.size, 0, none⟩) lxa).trans HSb.out.2.1
 have p1 := (kC.cell (p := ⟨wp.heap.size, 1, none⟩) lxa).trans HSb.out.2.2
 have lxc := Nat.lt_of_lt_of_le lxa kC.size
 have HSc := Lib.hid (And.intro Sc kbc)
 clear Sc kbc kC lxa
 cases ex with
 | true =>
  have hd : tv = mv := by
   have he := of_decide_eq_true HEE.out
   have h1 := HT.out.1 he
   rw [← HTV.out.1, ← HTV.out.2, ← h1]
   unfold Cfg.lvTold
   rw [if_pos he]
  have dq : (tv == mv) = true := by simp [hd]
  have HD := Lib.hid hd
  clear hd
  go_wp2_with fail
  refine (HMS.out _ HSc.out.1).mono ?_
  rintro e wd ⟨rfl, hbd⟩
  have HF := Lib.hid (HX.out.2.1.trans ((HSc.out.2.trans (hbd.mono HSc.out.2.size)).mono HX.out.2.1.size))
  clear hbd p0 p1
  go_wp2_with fail
  go_ret
  exact ⟨rfl, HF.out⟩
 | false =>
  go_wp2_with fail
  refine (HOT.out _ HSc.out.1).mono ?_
  rintro e wd ⟨⟨v8, rfl, hO8⟩, hbd⟩
  have hr1 := R.r1
  have hr2 := R.r2
  obtain ⟨g8, c8, rfl⟩ : ∃ g8 c8, v8 = .slice (some ⟨g8, 0, none⟩) c.r c8 := by
   rcases hO8.2 with ⟨h1, h2⟩ | ⟨g, cap2, cur, h1, _⟩
   ·omega
   ·exact ⟨g, cap2, h1⟩
  have Sd := HSc.out.1.below hbd
  have kbd := HSc.out.2.trans (hbd.mono HSc.out.2.size)
  replace p0 := (hbd.cell (p := ⟨wp.heap.size, 0, none⟩) lxc).trans p0
  replace p1 := (hbd.cell (p := ⟨wp.heap.size, 1, none⟩) lxc).trans p1
  have lxd := Nat.lt_of_lt_of_le lxc hbd.size
  have y2 := cell_of_heap Sd.r.hd 2 _ rfl
  have hOLl : (othersL c L p K (F h)).length = c.r := by simp [othersL]
  have hnear := others_near c L p K (F h) (far : Int)
  have hcell : ∀ t, t < c.r → wd.cell? ⟨g8, t, none⟩ = some (.int .i64 ((othersL c L p K (F h)).getD t 0)) := fun t ht => by
   rw [hO8.cellAt t (by omega)]
   exact i64s_get _ t (by omega)
  have hTM := HT.out.2 (fun he => by have := of_decide_eq_false HEE.out; exact this he)
  rw [← hnear] at hTM
  have hTM2 : c.r < 2 * nearN (far : Int) (othersL c L p K (F h)) → mv - (far : Int) ≤ tv ∧ tv ≤ mv + (far : Int) := fun hn => by
   have h1 := hTM hn
   rw [HTV.out.2] at h1
   rw [← HTV.out.1]
   exact h1
  obtain ⟨OL, hOL⟩ : ∃ OL, othersL c L p K (F h) = OL := ⟨_, rfl⟩
  rw [hOL] at hOLl hcell hTM2
  have HC8 := Lib.hid (And.intro hcell (And.intro hTM2 hOLl))
  have HSd := Lib.hid (And.intro Sd kbd)
  clear Sd kbd hbd hO8 hnear hcell hTM hTM2 hOL hOLl lxc
  go_wp2_with fail
  go_loop [14, 16] (fun a i => ∃ t : Nat, t ≤ c.r ∧ a = .int .i64 ((nearN (far : Int) (OL.take t) : Nat) : Int) ∧ i = .int .i64 (t : Int)) (fun _ i => c.r - (intOf i).toNat)
  case atStart => exact ⟨0, by omega, by simp [nearN], rfl⟩
  case round =>
   obtain ⟨t, ht, rfl, rfl⟩ := hrel
   by_cases htl : t < c.r
   ·have c0 : decide ((t : Int) < (c.r : Int)) = true := by simp; omega
    have hst := near_snoc (far : Int) OL t (by rw [HC8.out.2.2]; exact htl)
    have hc := HC8.out.1 t htl
    have hnl : nearN (far : Int) (OL.take t) ≤ 8 := Nat.le_trans (near_le _ _) (by rw [List.length_take, HC8.out.2.2]; omega)
    obtain ⟨x, hx⟩ : ∃ x, OL.getD t 0 = x := ⟨_, rfl⟩
    rw [hx] at hst hc
    obtain ⟨nn, hnn⟩ : ∃ nn, nearN (far : Int) (OL.take t) = nn := ⟨_, rfl⟩
    rw [hnn] at hst hnl ⊢
    obtain ⟨b1, hb1'⟩ : ∃ b1, decide (-(far : Int) ≤ x) = b1 := ⟨_, rfl⟩
    obtain ⟨b2, hb2'⟩ : ∃ b2, decide (x ≤ (far : Int)) = b2 := ⟨_, rfl⟩
    rw [hb1', hb2'] at hst
    have HS9 := Lib.hid hst
    clear hst hx hnn
    cases b1 <;> cases b2
    ·go_wp2_with fail
     have HR : ∃ t' : Nat, t' ≤ c.r ∧ Value.int IntKind.i64 ((nn : Int)) = .int .i64 ((nearN (far : Int) (OL.take t') : Nat) : Int) ∧ Value.int IntKind.i64 ((t : Int) + 1) = .int .i64 (t' : Int) := ⟨t + 1, by omega, by rw [HS9.out]; simp, by simp⟩
     exact ⟨HR, by simp only [intOf]; omega⟩
    ·go_wp2_with fail
     have HR : ∃ t' : Nat, t' ≤ c.r ∧ Value.int IntKind.i64 ((nn : Int)) = .int .i64 ((nearN (far : Int) (OL.take t') : Nat) : Int) ∧ Value.int IntKind.i64 ((t : Int) + 1) = .int .i64 (t' : Int) := ⟨t + 1, by omega, by rw [HS9.out]; simp, by simp⟩
     exact ⟨HR, by simp only [intOf]; omega⟩
    ·go_wp2_with fail
     have HR : ∃ t' : Nat, t' ≤ c.r ∧ Value.int IntKind.i64 ((nn : Int)) = .int .i64 ((nearN (far : Int) (OL.take t') : Nat) : Int) ∧ Value.int IntKind.i64 ((t : Int) + 1) = .int .i64 (t' : Int) := ⟨t + 1, by omega, by rw [HS9.out]; simp, by simp⟩
     exact ⟨HR, by simp only [intOf]; omega⟩
    ·go_wp2_with fail
     have HR : ∃ t' : Nat, t' ≤ c.r ∧ Value.int IntKind.i64 ((nn : Int) + 1) = .int .i64 ((nearN (far : Int) (OL.take t') : Nat) : Int) ∧ Value.int IntKind.i64 ((t : Int) + 1) = .int .i64 (t' : Int) := ⟨t + 1, by omega, by rw [HS9.out]; simp, by simp⟩
     exact ⟨HR, by simp only [intOf]; omega⟩
   ·obtain rfl : t = c.r := by omega
    have c0 : decide ((c.r : Int) < (c.r : Int)) = false := by simp
    have htk : OL.take c.r = OL := by rw [← HC8.out.2.2, List.take_length]
    rw [htk]
    have hnl : nearN (far : Int) OL ≤ 8 := Nat.le_trans (near_le _ _) (by rw [HC8.out.2.2]; omega)
    have hfin := HC8.out.2.1
    obtain ⟨nn, hnn⟩ : ∃ nn, nearN (far : Int) OL = nn := ⟨_, rfl⟩
    rw [hnn] at hnl hfin ⊢
    by_cases hN : 2 * nn ≤ c.r
    ·have d9 : decide (2 * (nn : Int) ≤ (c.r : Int)) = true := by simp; omega
     have HF := Lib.hid (HX.out.2.1.trans (HSd.out.2.mono HX.out.2.1.size))
     clear htk hnn hfin hN
     go_wp2_with fail
     go_ret
     exact ⟨rfl, HF.out⟩
    ·have d9 : decide (2 * (nn : Int) ≤ (c.r : Int)) = false := by simp; omega
     obtain ⟨g1, g2⟩ := hfin (by omega)
     have f1 : decide (mv - (far : Int) ≤ tv) = true := decide_eq_true g1
     have f2 : decide (tv ≤ mv + (far : Int)) = true := decide_eq_true g2
     clear htk hnn hfin hN g1 g2
     go_wp2_with fail
     refine (HMS.out _ HSd.out.1).mono ?_
     rintro e we ⟨rfl, hbe⟩
     have Se := HSd.out.1.below hbe
     have kbe := HSd.out.2.trans (hbe.mono HSd.out.2.size)
     replace p0 := (hbe.cell (p := ⟨wp.heap.size, 0, none⟩) lxd).trans p0
     replace p1 := (hbe.cell (p := ⟨wp.heap.size, 1, none⟩) lxd).trans p1
     have HSe := Lib.hid (And.intro Se kbe)
     clear Se kbe hbe y2
     go_wp2_with fail
     refine (HMS.out _ HSe.out.1).mono ?_
     rintro e wf ⟨rfl, hbf⟩
     have HF := Lib.hid (HX.out.2.1.trans ((HSe.out.2.trans (hbf.mono HSe.out.2.size)).mono HX.out.2.1.size))
     clear hbf p0 p1
     go_wp2_with fail
     go_ret
     exact ⟨rfl, HF.out⟩
end Go.Proofs.YtbhppbeepmllaaaGreatDoor
