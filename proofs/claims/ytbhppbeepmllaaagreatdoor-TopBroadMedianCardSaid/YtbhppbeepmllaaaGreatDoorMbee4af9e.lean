import Derived.Test.YtbhppbeepmllaaaGreatDoorMc020e4ad
import Derived.Test.YtbhppbeepmllaaaGreatDoorMa2ad0a35
set_option linter.unusedVariables false
set_option linter.unusedSimpArgs false
set_option maxRecDepth 100000
set_option maxHeartbeats 2000000
namespace Go.Proofs.YtbhppbeepmllaaaGreatDoor
open Go.RowKit

variable {B0 : Nat} {w w' w1 : World} {bd ag mb n : Nat} {sd lb lcap : Nat → Nat} {vs : Nat → Nat → Lv} {c : Cfg} {cs cs' : Nat → Nat → List Int} {K K' : List Nat} {F F' L : Nat → List Int} {kv kv' : Value} {fv fv' : Nat → Value}
def handN (a : Int) : Nat := ((a % 65536) % 3).toNat
theorem handN_lt (a : Int) : handN a < 3 := by unfold handN; omega
theorem handN_int (a : Int) : ((handN a : Nat) : Int) = (a % 65536) % 3 := by unfold handN; omega
theorem BdRow.congr (S : BdRow B0 w bd ag c K F kv fv) (h : ∀ g, g < 3 → F g = F' g) : BdRow B0 w bd ag c K F' kv fv :=
 ⟨S.hd, S.kr, fun g g3 => by rw [← h g g3]; exact S.fr g g3, fun g g3 => by rw [← h g g3]; exact S.fl g g3, S.ff, S.lo⟩
theorem Brd.congr (S : Brd B0 w bd ag mb n sd lb lcap vs c K F cs kv fv) (h : ∀ g, g < 3 → F g = F' g) : Brd B0 w bd ag mb n sd lb lcap vs c K F' cs kv fv := ⟨S.a, S.r.congr h, S.fo, S.flo, S.b4⟩
theorem not_bdF (S : BdRow B0 w bd ag c K F kv fv) {b : Nat} {cur : Array Value} {t : TypeId} (hx : w.heap[b]? = some (Obj.cells cur t (0, 0))) (h1 : t ≠ 37) (h2 : t ≠ 22) (h3 : t ≠ 2) : ¬ bdF bd kv fv b := by
 intro hb
 obtain ⟨cur2, t2, h4, h5⟩ := S.bkind b hb
 rw [hx] at h4
 simp at h4
 obtain ⟨_, rfl⟩ := h4
 rcases h5 with h | h | h
 ·exact h1 h
 ·exact h2 h
 ·exact h3 h
theorem Brd.not_foot (S : Brd B0 w bd ag mb n sd lb lcap vs c K F cs kv fv) {b : Nat} {cur : Array Value} {t : TypeId} (hx : w.heap[b]? = some (Obj.cells cur t (0, 0))) (h1 : t ≠ 217) (h3 : t ≠ 2) : ¬ foot ag mb n vs c b := by
 rintro (h | h | ⟨g, g1, g2, l, hl, rfl⟩)
 ·exact kind_ne hx S.a.st.hd h1 h
 ·subst h
  obtain ⟨D, ⟨es, clock, k1, k2⟩, hD⟩ := S.a.st.map.ex
  rw [hx] at k1
  cases k1
 ·obtain ⟨cur2, hc⟩ := ((S.a.stk g g1 g2).lv l hl).cbKind
  exact kind_ne hx hc h3 rfl
theorem Brd.placed (S : Brd B0 w bd ag mb n sd lb lcap vs c K F cs kv fv) {key i : Nat} (hnd : K.Nodup) (hP : PlaceOut B0 w bd ag c K F kv fv key i w') :
  ∃ kv' fv', Brd B0 w' bd ag mb n sd lb lcap vs c (plK K key) (plF K key F) cs kv' fv' ∧ (plK K key)[i]? = some key ∧ i = (plK K key).idxOf key ∧ Upd (fun k => B0 ≤ k) w w' := by
 obtain ⟨K', F', kv', fv', R', hi, hpl, hu, hn⟩ := hP
 have B := S.rows R' hu hn
 have hu2 : Upd (fun k => B0 ≤ k) w w' := hu.mono (fun k hk => S.r.blo k hk)
 rcases hpl with ⟨hm, e1, e2⟩ | ⟨hm, e1, e2⟩
 ·have e3 : plK K key = K := by unfold plK; rw [if_pos hm]
  have e4 : plF K key F = F := by unfold plF; funext h; rw [if_pos hm]
  subst e1; subst e2
  rw [e3, e4]
  exact ⟨kv', fv', B, hi, idx_of hnd hi, hu2⟩
 ·have e3 : plK K key = K ++ [key] := by unfold plK; rw [if_neg hm]
  have nd := plK_nd hnd key
  rw [e3] at nd ⊢
  subst e1
  exact ⟨kv', fv', B.congr (fun g g3 => by rw [e2 g g3]; unfold plF; rw [if_neg hm]), hi, idx_of nd hi, hu2⟩
theorem does_add (S : Brd B0 w bd ag mb 3 sd lb lcap vs c K F cs kv fv) (R : c.Ok) (M : Int) (N : Nat) (A : AbOk c M N K F cs) (hM : 1048576 ≤ M) (hM2 : M ≤ 562949953421312) (hN : N ≤ 3000) (kind H O D : Int) (key : Nat) (hk3 : kind ≠ 3) (hk4 : kind ≠ 4) (hkey : key < 18446744073709551616) (hD0 : -9223372036854775808 ≤ D) (hD1 : D ≤ 9223372036854775807) :
  Calls Tryz.prog 38 #[.pointer (some ⟨bd, 0, none⟩), .agg #[.int .i64 kind, .int .i64 H, .int .i64 O, .int .u64 (key : Int), .int .i64 D]] w fun e w' => e = .returned (.bool true) ∧ (∃ kv' fv', Brd B0 w' bd ag mb 3 sd lb lcap vs c (plK K (key % c.keys 0)) (addF K F (handN H) (key % c.keys 0) (smallI c.m D)) (addC c cs (handN H) (key % c.keys 0) (smallI c.m D)) kv' fv') ∧ Upd (fun k => B0 ≤ k) w w' := by
 have kb : Below w.heap.size w (w.alloc (.cells #[.int .i64 kind, .int .i64 H, .int .i64 O, .int .u64 (key : Int), .int .i64 D] 84)) := (Below.refl _ _).alloc (Nat.le_refl _) _
 have x0 : (w.alloc (.cells #[.int .i64 kind, .int .i64 H, .int .i64 O, .int .u64 (key : Int), .int .i64 D] 84)).heap[w.heap.size]? = some (Obj.cells #[.int .i64 kind, .int .i64 H, .int .i64 O, .int .u64 (key : Int), .int .i64 D] 84 (0, 0)) := heap_alloc_at _ rfl
 have S1 := S.below kb
 obtain ⟨W, hW⟩ : ∃ W, w.alloc (.cells #[.int .i64 kind, .int .i64 H, .int .i64 O, .int .u64 (key : Int), .int .i64 D] 84) = W := ⟨_, rfl⟩
 rw [hW] at kb x0 S1
 have lx := lt_of_block x0
 have q0 := cell_of_heap x0 0 _ rfl
 have q1 := cell_of_heap x0 1 _ rfl
 have q2 := cell_of_heap x0 2 _ rfl
 have q3 := cell_of_heap x0 3 _ rfl
 have q4 := cell_of_heap x0 4 _ rfl
 have d3 : (kind == (3 : Int)) = false := by simpa using hk3
 have d4 : (kind == (4 : Int)) = false := by simpa using hk4
 have HH := Lib.hid fun (a : Int) (w : World) => ghandle_any a w
 have HK := Lib.hid fun (X : World) (S : Brd B0 X bd ag mb 3 sd lb lcap vs c K F cs kv fv) => gkey_any S.r R key hkey
 have hkl := R.keys_le' 0
 have hkp : 1 ≤ c.keys 0 := Nat.one_le_two_pow
 have hkm : key % c.keys 0 < c.keys 0 := Nat.mod_lt _ (by omega)
 obtain ⟨ky, hky⟩ : ∃ ky, key % c.keys 0 = ky := ⟨_, rfl⟩
 rw [hky] at HK hkm ⊢
 have hh3 := handN_lt H
 have ehH := handN_int H
 have ehO := handN_int O
 obtain ⟨h, hh⟩ : ∃ h, handN H = h := ⟨_, rfl⟩
 rw [hh] at hh3 ehH ⊢
 have HS := Lib.hid (And.intro S1 (And.intro kb x0))
 have EH := Lib.hid ehH
 have EO := Lib.hid ehO
 clear hky hh S S1 x0 ehH ehO
 go_enter Tryz.func38, Tryz.ntmps38
 go_wp2_with fail
 refine (HH.out H _).mono ?_
 rintro e w1 ⟨rfl, rfl⟩
 rw [← EH.out]
 go_wp2_with fail
 refine (HH.out O _).mono ?_
 rintro e w1 ⟨rfl, rfl⟩
 go_wp2_with fail
 refine (HK.out _ HS.out.1).mono ?_
 rintro e w2 ⟨rfl, hb2⟩
 have S2 := HS.out.1.below hb2
 have kb2 := kb.trans (hb2.mono kb.size)
 have x2 := (hb2.block _ lx).trans HS.out.2.2
 have HP := Lib.hid (gplace_any S2.r ky (by omega) (by have := A.few; omega))
 have HS2 := Lib.hid (And.intro S2 (And.intro kb2 x2))
 clear S2 kb2 x2 hb2 q0 q1 q2 q3 q4
 go_wp2_with fail
 refine HP.out.mono ?_
 rintro e w3 ⟨i, rfl, hPO⟩
 obtain ⟨S2, kb2, x2⟩ := HS2.out
 obtain ⟨kv3, fv3, S3, hat, hidx, hu3⟩ := S2.placed A.nd hPO
 have kU := (Upd.of_below kb2 : Upd (fun k => B0 ≤ k) w w2).trans hu3
 have hub : Upd (bdF bd (kv) fv) w2 w3 := by
  obtain ⟨_, _, _, _, _, _, _, h, _⟩ := hPO
  exact h
 have x3 := (hub.block _ (lt_of_block x2) (not_bdF S2.r x2 (by decide) (by decide) (by decide))).trans x2
 have hM0 : smallI c.m D = smallI c.m D := rfl
 have hsb := small_bd c.m D
 have HSM := Lib.hid fun w => gsmall_any c R D hD0 hD1 w
 obtain ⟨d, hd⟩ : ∃ d, smallI c.m D = d := ⟨_, rfl⟩
 rw [hd] at HSM hsb
 have HD := Lib.hid hd
 have HI := Lib.hid (And.intro hat hidx)
 have HB := Lib.hid (And.intro S3 (And.intro kU x3))
 have z1 := fun k : After w3.heap.size w3 => k.cell (b := bd) (o := 1) (lt_of_block S3.r.hd) (cell_of_heap S3.r.hd 1 _ rfl)
 have z2 := fun k : After w3.heap.size w3 => k.cell (b := bd) (o := 2) (lt_of_block S3.r.hd) (cell_of_heap S3.r.hd 2 _ rfl)
 have z3 := fun k : After w3.heap.size w3 => k.cell (b := bd) (o := 3) (lt_of_block S3.r.hd) (cell_of_heap S3.r.hd 3 _ rfl)
 have z4 := fun k : After w3.heap.size w3 => k.cell (b := bd) (o := 4) (lt_of_block S3.r.hd) (cell_of_heap S3.r.hd 4 _ rfl)
 have z5 := fun k : After w3.heap.size w3 => k.cell (b := bd) (o := 5) (lt_of_block S3.r.hd) (cell_of_heap S3.r.hd 5 _ rfl)
 have y4 := fun k : After w3.heap.size w3 => k.cell (b := w.heap.size) (o := 4) (lt_of_block x3) (cell_of_heap x3 4 _ rfl)
 clear S2 kb2 x2 hat hidx hu3 kU x3 hub hPO hd hM0 S3 HK HP
 go_wp2_with fail
 refine wp_region_after w3.heap.size (by kernel_rfl) (by kernel_rfl) ?_
 repeat (go_big_quiet_step ((go_at_call 37; exact after_of (Nat.le_refl _) _ (HSM.out _))))
 refine wpQuiet_nil ?_
 intro k
 have kB := k.h
 obtain ⟨W5, hW5⟩ : ∃ W5, k.w = W5 := ⟨_, rfl⟩
 rw [hW5] at kB
 rw [hW5]
 clear hW5 k z1 z2 z3 z4 z5 y4 HSM
 obtain ⟨S3, kU3, x3⟩ := HB.out
 have S5 := S3.below kB
 have kU5 := kU3.trans (Upd.of_below kB)
 have ya := cell_of_heap S5.r.hd 0 _ rfl
 have HT1 := Lib.hid fun w => gtext_any ((h : Int) + 1) (by omega) (by omega) w
 have HT2 := Lib.hid fun w => gtext_any (ky : Int) (by omega) (by omega) w
 have HT3 := Lib.hid fun w => gtext_any d (by omega) (by omega) w
 have s1 := text_size ((h : Int) + 1) (by omega) (by omega)
 have s2 := text_size (ky : Int) (by omega) (by omega)
 have s3 := text_size d (by omega) (by omega)
 obtain ⟨R1, hR1⟩ : ∃ R1, sOf (Lib.itoa ((h : Int) + 1)) = R1 := ⟨_, rfl⟩
 obtain ⟨R2, hR2⟩ : ∃ R2, sOf (Lib.itoa (ky : Int)) = R2 := ⟨_, rfl⟩
 obtain ⟨R3, hR3⟩ : ∃ R3, sOf (Lib.itoa d) = R3 := ⟨_, rfl⟩
 rw [hR1] at HT1 s1
 rw [hR2] at HT2 s2
 rw [hR3] at HT3 s3
 have hcat := ln_cat3 [97, 100, 100] ⟨#[97, 100, 100, 32]⟩ R1 R2 R3 ((h : Int) + 1) ky d rfl hR1.symm hR2.symm hR3.symm
 have HC := Lib.hid hcat
 have HB5 := Lib.hid (And.intro S5 kU5)
 clear S3 kU3 x3 kB hR1 hR2 hR3 hcat kU5
 go_wp2_with fail
 refine wp_region_mixA W5.heap.size [0, 1, 2, 3, 4, 5, 6, 7, 8, 9, 10, 11, 12, 13, 14, 15, 16] [17, 18, 19, 20, 21, 22] (by kernel_rfl) (by kernel_rfl) rfl ?_
 simp only [opsAt, List.map_cons, List.map_nil, List.getElem?_toArray, List.getElem?_cons_zero, List.getElem?_cons_succ, Option.getD_some]
 have za := fun k : After W5.heap.size W5 => k.cell (lt_of_block S5.r.hd) ya
 repeat (go_big_quiet_step (((go_at_call 14; first | exact after_of (Nat.le_refl _) _ (HT1.out _) | exact after_of (Nat.le_refl _) _ (HT2.out _) | exact after_of (Nat.le_refl _) _ (HT3.out _)))))
 refine wpQuiet_nil ?_
 intro kk
 unfold calmQ
 have kb := kk.h
 clear za
 obtain ⟨W6, hw1⟩ : ∃ W6, kk.w = W6 := ⟨_, rfl⟩
 rw [hw1] at kb
 rw [hw1]
 clear hw1
 have S6 := HB5.out.1.below kb
 have kU6 := HB5.out.2.trans (Upd.of_below kb)
 have HL := Lib.hid (ln_add S6.a R (by decide) (h + 1) ky d M 1048576 (by omega) (by omega) hkm (by omega) (by decide) (by omega) (by omega) hsb.2.2 (fun l hl => A.cb h hh3 l hl) _ HC.out)
 have HS6 := Lib.hid (And.intro S6 kU6)
 clear S6 kU6 kb ya
 go_wp2_with fail
 refine HL.out.mono ?_
 rintro e W7 ⟨rfl, A7, u7⟩
 have S7 := HS6.out.1.line A7 u7
 have kU7 := HS6.out.2.trans (u7.mono (fun k hk => HS6.out.1.flo k hk))
 obtain ⟨hat, hidx⟩ := HI.out
 have hil := (List.getElem?_eq_some_iff.1 hat).1
 obtain ⟨g, cap, hfv, hcv⟩ := S7.r.val hh3 hil
 have yb := S7.r.cellF hh3
 rw [hfv] at yb
 have lg : g < W7.heap.size := ((S7.r.fr h hh3).lt g (by rw [hfv]; rfl)).2
 have hxb := (A.place (by omega) hkm).fb h hh3
 have hxv := hxb.getD (by omega) i
 have HX := Lib.hid (And.intro S7 (And.intro kU7 (And.intro hfv hil)))
 have HE := Lib.hid (show addF K F h ky d = fun g => if g = h then (plF K ky F h).set i ((plF K ky F h).getD i 0 + d) else plF K ky F g by unfold addF; rw [← hidx])
 obtain ⟨x, hx⟩ : ∃ x, (plF K ky F h).getD i 0 = x := ⟨_, rfl⟩
 obtain ⟨m, hm⟩ : ∃ m, (plK K ky).length = m := ⟨_, rfl⟩
 rw [hx] at hcv hxv HE
 rw [hm] at yb hil
 have HXX := Lib.hid (And.intro hx hm)
 have l7 := lt_of_block S7.r.hd
 clear hidx hat hfv hx hm hxb HL
 go_wp2_with fail
 refine wp_region_mixA W7.heap.size [0, 1, 2, 3, 4, 5, 6, 7, 8, 9, 10, 11, 12, 13, 14, 15, 16, 17] [18, 19] (by kernel_rfl) (by kernel_rfl) rfl ?_
 simp only [opsAt, List.map_cons, List.map_nil, List.getElem?_toArray, List.getElem?_cons_zero, List.getElem?_cons_succ, Option.getD_some]
 have za := fun k : After W7.heap.size W7 => k.cell (l7) yb
 have zb := fun k : After W7.heap.size W7 => k.cell lg hcv
 repeat (go_big_quiet_step (fail))
 refine wpQuiet_nil ?_
 intro kk
 unfold calmQ
 have kb := kk.h
 clear za zb
 obtain ⟨W8, hw1⟩ : ∃ W8, kk.w = W8 := ⟨_, rfl⟩
 rw [hw1] at kb
 rw [hw1]
 clear hw1
 obtain ⟨S7, kU7, hfv, hil0⟩ := HX.out
 have S8 := S7.below kb
 have kU8 := kU7.trans (Upd.of_below kb)
 obtain ⟨P8, u8⟩ := S8.r.put hh3 hil0 hfv (x + d)
 have S9 := S8.rows P8 u8 (fun b hb => .inl hb)
 have kU9 := kU8.trans (u8.mono (fun k hk => S8.r.blo k hk))
 have fz : W8.frozen? ⟨g, i, none⟩ = false := by
  obtain ⟨cur, hc⟩ := S8.r.r.fk hh3 (show (fv3 h).ownBlock = some g by rw [hfv]; rfl)
  simp [World.frozen?, hc]
 have yv := (kb.cell (p := ⟨g, i, none⟩) lg).trans hcv
 have l8 : g < W8.heap.size := Nat.lt_of_lt_of_le lg kb.size
 have HF := Lib.hid (show ∃ kv' fv', Brd B0 (W8.setCell ⟨g, i, none⟩ (.int .i64 (x + d))) bd ag mb 3 sd lb lcap vs c (plK K ky) (addF K F h ky d) (addC c cs h ky d) kv' fv' from ⟨kv3, fv3, by
  rw [HE.out]
  exact S9⟩)
 have HU9 := Lib.hid kU9
 clear S7 kU7 hfv S8 kU8 P8 u8 S9 kU9 hcv yb hil0
 go_wp2_with fail
 go_ret
 refine ⟨by first | rfl | simp [sOf_toList], ?_, HU9.out⟩
 rw [HD.out]
 exact HF.out
end Go.Proofs.YtbhppbeepmllaaaGreatDoor

namespace Go.Proofs.YtbhppbeepmllaaaGreatDoor
open Go.RowKit

variable {B0 : Nat} {w w' w1 : World} {bd ag mb n : Nat} {sd lb lcap : Nat → Nat} {vs : Nat → Nat → Lv} {c : Cfg} {cs cs' : Nat → Nat → List Int} {K K' : List Nat} {F F' L : Nat → List Int} {kv kv' : Value} {fv fv' : Nat → Value}
def mixK (f : Int → Int → Int) (a b : List Int) (k : Nat) : List Int := zipI f (a.take k) (b.take k) ++ a.drop k
theorem mixK_len (f : Int → Int → Int) (a b : List Int) (k : Nat) (h : b.length = a.length) : (mixK f a b k).length = a.length := by
 simp [mixK, zipI_len, h]; omega
theorem mixK_at (f : Int → Int → Int) (a b : List Int) (k : Nat) (h : b.length = a.length) (hk : k < a.length) : (mixK f a b k).getD k 0 = a.getD k 0 := by
 have hl : (zipI f (a.take k) (b.take k)).length = k := by simp [zipI_len, h]; omega
 unfold mixK
 rw [List.getD_eq_getElem?_getD, List.getElem?_append_right (by omega), hl, Nat.sub_self, List.getElem?_drop]
 simp [List.getD_eq_getElem?_getD]
theorem mixK_set (f : Int → Int → Int) (a b : List Int) (k : Nat) (h : b.length = a.length) (hk : k < a.length) : (mixK f a b k).set k (f (a.getD k 0) (b.getD k 0)) = mixK f a b (k + 1) := by
 have hl : (zipI f (a.take k) (b.take k)).length = k := by simp [zipI_len, h]; omega
 unfold mixK
 rw [List.set_append_right _ _ (by omega), hl, Nat.sub_self, List.drop_eq_getElem_cons hk]
 have e : zipI f (a.take (k + 1)) (b.take (k + 1)) = zipI f (a.take k) (b.take k) ++ [f (a.getD k 0) (b.getD k 0)] := by
  unfold zipI
  rw [List.take_succ_eq_append_getElem hk, List.take_succ_eq_append_getElem (show k < b.length by omega), List.zipWith_append (by simp [h])]
  simp [List.getD_eq_getElem?_getD, List.getElem?_eq_getElem hk, List.getElem?_eq_getElem (show k < b.length by omega)]
 rw [e, List.set_cons_zero, List.append_assoc]
 rfl
theorem mixK_zero (f : Int → Int → Int) (a b : List Int) : mixK f a b 0 = a := by simp [mixK, zipI]
theorem mixK_all (f : Int → Int → Int) (a b : List Int) (k : Nat) (h : b.length = a.length) (hk : k = a.length) : mixK f a b k = zipI f a b := by
 subst hk
 unfold mixK
 rw [List.take_length, ← h, List.take_length, h, List.drop_length, List.append_nil]
theorem does_subno (S : Brd B0 w bd ag mb 3 sd lb lcap vs c K F cs kv fv) (R : c.Ok) (M : Int) (N : Nat) (A : AbOk c M N K F cs) (hM : 1048576 ≤ M) (hM2 : M ≤ 562949953421312) (hN : N ≤ 3000) (hm : c.m = 2) (H O D : Int) (key : Nat) :
  Calls Tryz.prog 38 #[.pointer (some ⟨bd, 0, none⟩), .agg #[.int .i64 4, .int .i64 H, .int .i64 O, .int .u64 (key : Int), .int .i64 D]] w fun e w' => e = .returned (.bool true) ∧ (∃ kv' fv', Brd B0 w' bd ag mb 3 sd lb lcap vs c K F cs kv' fv') ∧ Upd (fun k => B0 ≤ k) w w' := by
 have kb : Below w.heap.size w (w.alloc (.cells #[.int .i64 4, .int .i64 H, .int .i64 O, .int .u64 (key : Int), .int .i64 D] 84)) := (Below.refl _ _).alloc (Nat.le_refl _) _
 have x0 : (w.alloc (.cells #[.int .i64 4, .int .i64 H, .int .i64 O, .int .u64 (key : Int), .int .i64 D] 84)).heap[w.heap.size]? = some (Obj.cells #[.int .i64 4, .int .i64 H, .int .i64 O, .int .u64 (key : Int), .int .i64 D] 84 (0, 0)) := heap_alloc_at _ rfl
 have S1 := S.below kb
 obtain ⟨W, hW⟩ : ∃ W, w.alloc (.cells #[.int .i64 4, .int .i64 H, .int .i64 O, .int .u64 (key : Int), .int .i64 D] 84) = W := ⟨_, rfl⟩
 rw [hW] at kb x0 S1
 have lx := lt_of_block x0
 have q0 := cell_of_heap x0 0 _ rfl
 have q1 := cell_of_heap x0 1 _ rfl
 have q2 := cell_of_heap x0 2 _ rfl
 have q3 := cell_of_heap x0 3 _ rfl
 have q4 := cell_of_heap x0 4 _ rfl
 have HH := Lib.hid fun (a : Int) (w : World) => ghandle_any a w
 have hh3 := handN_lt H
 have ho3 := handN_lt O
 have ehH := handN_int H
 have ehO := handN_int O
 obtain ⟨h, hh⟩ : ∃ h, handN H = h := ⟨_, rfl⟩
 obtain ⟨o, ho⟩ : ∃ o, handN O = o := ⟨_, rfl⟩
 try rw [hh, ho]
 rw [hh] at hh3 ehH
 rw [ho] at ho3 ehO
 have EH := Lib.hid ehH
 have EO := Lib.hid ehO
 have ya := fun k : After W.heap.size W => k.cell (b := bd) (o := 0) (lt_of_block S1.r.hd) (cell_of_heap S1.r.hd 0 _ rfl)
 have HT1 := Lib.hid fun w => gtext_any ((h : Int) + 1) (by omega) (by omega) w
 have HT2 := Lib.hid fun w => gtext_any ((o : Int) + 1) (by omega) (by omega) w
 have s1 := text_size ((h : Int) + 1) (by omega) (by omega)
 have s2 := text_size ((o : Int) + 1) (by omega) (by omega)
 obtain ⟨R1, hR1⟩ : ∃ R1, sOf (Lib.itoa ((h : Int) + 1)) = R1 := ⟨_, rfl⟩
 obtain ⟨R2, hR2⟩ : ∃ R2, sOf (Lib.itoa ((o : Int) + 1)) = R2 := ⟨_, rfl⟩
 rw [hR1] at HT1 s1
 rw [hR2] at HT2 s2
 have hcat := ln_cat2 [115, 117, 98, 116, 114, 97, 99, 116] ⟨#[115, 117, 98, 116, 114, 97, 99, 116, 32]⟩ R1 R2 ((h : Int) + 1) ((o : Int) + 1) rfl hR1.symm hR2.symm
 have HC := Lib.hid hcat
 have HS := Lib.hid (And.intro S1 (And.intro kb x0))
 clear hh ho S S1 x0 ehH ehO hR1 hR2 hcat kb
 go_enter Tryz.func38, Tryz.ntmps38
 go_wp2_with fail
 refine (HH.out H _).mono ?_
 rintro e w1 ⟨rfl, rfl⟩
 rw [← EH.out]
 go_wp2_with fail
 refine (HH.out O _).mono ?_
 rintro e w1 ⟨rfl, rfl⟩
 rw [← EO.out]
 go_wp2_with fail
 refine wp_region_mixA w1.heap.size [0, 1, 2, 3, 4, 5, 6, 7, 8, 9, 10, 11, 12, 13] [14, 15, 16, 17, 18, 19] (by kernel_rfl) (by kernel_rfl) rfl ?_
 simp only [opsAt, List.map_cons, List.map_nil, List.getElem?_toArray, List.getElem?_cons_zero, List.getElem?_cons_succ, Option.getD_some]
 repeat (go_big_quiet_step (((go_at_call 14; first | exact after_of (Nat.le_refl _) _ (HT1.out _) | exact after_of (Nat.le_refl _) _ (HT2.out _)))))
 refine wpQuiet_nil ?_
 intro kk
 unfold calmQ
 have kb := kk.h
 obtain ⟨W6, hw1⟩ : ∃ W6, kk.w = W6 := ⟨_, rfl⟩
 rw [hw1] at kb
 rw [hw1]
 clear hw1
 have S6 := HS.out.1.below kb
 have kU6 := (Upd.of_below HS.out.2.1 : Upd (fun k => B0 ≤ k) w w1).trans (Upd.of_below kb)
 have x6 := (kb.block _ lx).trans HS.out.2.2
 have p0 := cell_of_heap x6 0 _ rfl
 clear q0 q1 q2 q3 q4 ya
 have HL := Lib.hid (ln_subno S6.a R (by decide) (h + 1) (o + 1) (by omega) (by omega) (by omega) (by omega) hm _ HC.out)
 have HS6 := Lib.hid (And.intro S6 (And.intro kU6 x6))
 have l6 := lt_of_block S6.r.hd
 have hm2 : ((c.m : Int) == 2) = true := by simp; omega
 clear S6 kU6 x6 kb p0 hm
 go_wp2_with fail
 refine HL.out.mono ?_
 rintro e W7 ⟨rfl, b7⟩
 have S7 := HS6.out.1.below b7
 have kU7 := HS6.out.2.1.trans (Upd.of_below b7)
 have x7 := (b7.block _ (lt_of_block HS6.out.2.2)).trans HS6.out.2.2
 have p0 := cell_of_heap x7 0 _ rfl
 have p4 := cell_of_heap S7.r.hd 4 _ rfl
 have HF := Lib.hid (And.intro S7 kU7)
 clear S7 kU7 x7 b7
 go_wp2_with fail
 go_ret
 exact ⟨by first | rfl | simp [sOf_toList], ⟨kv, fv, HF.out.1⟩, HF.out.2⟩
theorem does_merge (S : Brd B0 w bd ag mb 3 sd lb lcap vs c K F cs kv fv) (R : c.Ok) (M : Int) (N : Nat) (A : AbOk c M N K F cs) (hM : 1048576 ≤ M) (hM2 : M ≤ 562949953421312) (hN : N ≤ 3000)  (H O D : Int) (key : Nat) :
  Calls Tryz.prog 38 #[.pointer (some ⟨bd, 0, none⟩), .agg #[.int .i64 3, .int .i64 H, .int .i64 O, .int .u64 (key : Int), .int .i64 D]] w fun e w' => e = .returned (.bool true) ∧ (∃ kv' fv', Brd B0 w' bd ag mb 3 sd lb lcap vs c K (pairF (· + ·) F (handN H) (handN O)) (pairC c (· + ·) cs (handN H) (handN O)) kv' fv') ∧ Upd (fun k => B0 ≤ k) w w' := by
 have kb : Below w.heap.size w (w.alloc (.cells #[.int .i64 3, .int .i64 H, .int .i64 O, .int .u64 (key : Int), .int .i64 D] 84)) := (Below.refl _ _).alloc (Nat.le_refl _) _
 have x0 : (w.alloc (.cells #[.int .i64 3, .int .i64 H, .int .i64 O, .int .u64 (key : Int), .int .i64 D] 84)).heap[w.heap.size]? = some (Obj.cells #[.int .i64 3, .int .i64 H, .int .i64 O, .int .u64 (key : Int), .int .i64 D] 84 (0, 0)) := heap_alloc_at _ rfl
 have S1 := S.below kb
 obtain ⟨W, hW⟩ : ∃ W, w.alloc (.cells #[.int .i64 3, .int .i64 H, .int .i64 O, .int .u64 (key : Int), .int .i64 D] 84) = W := ⟨_, rfl⟩
 rw [hW] at kb x0 S1
 have lx := lt_of_block x0
 have q0 := cell_of_heap x0 0 _ rfl
 have q1 := cell_of_heap x0 1 _ rfl
 have q2 := cell_of_heap x0 2 _ rfl
 have q3 := cell_of_heap x0 3 _ rfl
 have q4 := cell_of_heap x0 4 _ rfl
 have HH := Lib.hid fun (a : Int) (w : World) => ghandle_any a w
 have hh3 := handN_lt H
 have ho3 := handN_lt O
 have ehH := handN_int H
 have ehO := handN_int O
 obtain ⟨h, hh⟩ : ∃ h, handN H = h := ⟨_, rfl⟩
 obtain ⟨o, ho⟩ : ∃ o, handN O = o := ⟨_, rfl⟩
 try rw [hh, ho]
 rw [hh] at hh3 ehH
 rw [ho] at ho3 ehO
 have EH := Lib.hid ehH
 have EO := Lib.hid ehO
 have ya := fun k : After W.heap.size W => k.cell (b := bd) (o := 0) (lt_of_block S1.r.hd) (cell_of_heap S1.r.hd 0 _ rfl)
 have HT1 := Lib.hid fun w => gtext_any ((h : Int) + 1) (by omega) (by omega) w
 have HT2 := Lib.hid fun w => gtext_any ((o : Int) + 1) (by omega) (by omega) w
 have s1 := text_size ((h : Int) + 1) (by omega) (by omega)
 have s2 := text_size ((o : Int) + 1) (by omega) (by omega)
 obtain ⟨R1, hR1⟩ : ∃ R1, sOf (Lib.itoa ((h : Int) + 1)) = R1 := ⟨_, rfl⟩
 obtain ⟨R2, hR2⟩ : ∃ R2, sOf (Lib.itoa ((o : Int) + 1)) = R2 := ⟨_, rfl⟩
 rw [hR1] at HT1 s1
 rw [hR2] at HT2 s2
 have hcat := ln_cat2 [109, 101, 114, 103, 101] ⟨#[109, 101, 114, 103, 101, 32]⟩ R1 R2 ((h : Int) + 1) ((o : Int) + 1) rfl hR1.symm hR2.symm
 have HC := Lib.hid hcat
 have HS := Lib.hid (And.intro S1 (And.intro kb x0))
 clear hh ho S S1 x0 ehH ehO hR1 hR2 hcat kb
 go_enter Tryz.func38, Tryz.ntmps38
 go_wp2_with fail
 refine (HH.out H _).mono ?_
 rintro e w1 ⟨rfl, rfl⟩
 rw [← EH.out]
 go_wp2_with fail
 refine (HH.out O _).mono ?_
 rintro e w1 ⟨rfl, rfl⟩
 rw [← EO.out]
 go_wp2_with fail
 refine wp_region_mixA w1.heap.size [0, 1, 2, 3, 4, 5, 6, 7, 8, 9, 10, 11, 12, 13] [14, 15, 16, 17, 18, 19] (by kernel_rfl) (by kernel_rfl) rfl ?_
 simp only [opsAt, List.map_cons, List.map_nil, List.getElem?_toArray, List.getElem?_cons_zero, List.getElem?_cons_succ, Option.getD_some]
 repeat (go_big_quiet_step (((go_at_call 14; first | exact after_of (Nat.le_refl _) _ (HT1.out _) | exact after_of (Nat.le_refl _) _ (HT2.out _)))))
 refine wpQuiet_nil ?_
 intro kk
 unfold calmQ
 have kb := kk.h
 obtain ⟨W6, hw1⟩ : ∃ W6, kk.w = W6 := ⟨_, rfl⟩
 rw [hw1] at kb
 rw [hw1]
 clear hw1
 have S6 := HS.out.1.below kb
 have kU6 := (Upd.of_below HS.out.2.1 : Upd (fun k => B0 ≤ k) w w1).trans (Upd.of_below kb)
 have x6 := (kb.block _ lx).trans HS.out.2.2
 have p0 := cell_of_heap x6 0 _ rfl
 clear q0 q1 q2 q3 q4 ya
 have HL := Lib.hid (ln_merge S6.a R (by decide) (h + 1) (o + 1) (by omega) (by omega) (by omega) (by omega) (fun l hl x hx => by have := A.cb h hh3 l hl x hx; omega) (fun l hl x hx => by have := A.cb o ho3 l hl x hx; omega) _ HC.out)
 have HS6 := Lib.hid (And.intro S6 (And.intro kU6 x6))
 have l6 := lt_of_block S6.r.hd
 skip
 clear S6 kU6 x6 kb p0
 go_wp2_with fail
 refine HL.out.mono ?_
 rintro e W7 ⟨rfl, A7, u7⟩
 have S7 := HS6.out.1.line A7 u7
 have kU7 := HS6.out.2.1.trans (u7.mono (fun k hk => HS6.out.1.flo k hk))
 have x7 := (u7.block _ (lt_of_block HS6.out.2.2) (HS6.out.1.not_foot HS6.out.2.2 (by decide) (by decide))).trans HS6.out.2.2
 have p0 := cell_of_heap x7 0 _ rfl
 have p4 := cell_of_heap S7.r.hd 4 _ rfl
 have yo := S7.r.cellF ho3
 have hFo := S7.r.fr o ho3
 have hlo := A.len o ho3
 have hlh := A.len h hh3
 have hfw := A.few
 obtain ⟨n, hn⟩ : ∃ n, K.length = n := ⟨_, rfl⟩
 rw [hn] at hFo hlo hlh hfw
 have HF := Lib.hid (And.intro S7 (And.intro kU7 (And.intro x7 hn)))
 have l7 := lt_of_block S7.r.hd
 have l7x := lt_of_block x7
 obtain ⟨i2, ji, jz0, jz1, jz2⟩ := info_parts Tryz.info2
 clear S7 kU7 x7 A7 u7 hn HL
 rcases Nat.eq_zero_or_pos n with hn0 | hnp
 ·subst hn0
  have e1 : F h = [] := List.length_eq_zero_iff.1 hlh
  have e2 : F o = [] := List.length_eq_zero_iff.1 hlo
  have key0 : ∀ W : World, Below W7.heap.size W7 W → (∃ kv' fv', Brd B0 W bd ag mb 3 sd lb lcap vs c K (pairF (· + ·) F h o) (pairC c (· + ·) cs h o) kv' fv') ∧ Upd (fun k => B0 ≤ k) w W := by
   intro W hb
   refine ⟨⟨kv, fv, (HF.out.1.below hb).congr (fun g g3 => ?_)⟩, HF.out.2.1.trans (Upd.of_below hb)⟩
   unfold pairF
   by_cases e : g = h
   ·subst e; simp [e1, e2, zipI]
   ·simp [e]
  have HK0 := Lib.hid key0
  clear key0
  rcases hFo.2 with ⟨a1, _⟩ | ⟨g, cap, cur, a1, _⟩
  ·rw [a1] at yo
   clear a1 hFo
   go_wp2_with fail
   go_loop [11] (fun i => i = .int .i64 0) (fun _ => 0)
   case atStart => rfl
   case round =>
    subst hrel
    go_wp2_with fail
    go_ret
    have kz := HK0.out _ ((Below.refl _ W7).alloc (Nat.le_refl _) (.cells #[] 2))
    exact ⟨by first | rfl | simp [sOf_toList], kz.1, kz.2⟩
  ·rw [a1] at yo
   clear a1 hFo
   go_wp2_with fail
   go_loop [11] (fun i => i = .int .i64 0) (fun _ => 0)
   case atStart => rfl
   case round =>
    subst hrel
    go_wp2_with fail
    go_ret
    have kz := HK0.out _ ((Below.refl _ W7).alloc (Nat.le_refl _) (.cells #[] 2))
    exact ⟨by first | rfl | simp [sOf_toList], kz.1, kz.2⟩
 ·obtain ⟨g, cap, hfv⟩ : ∃ g cap, fv o = .slice (some ⟨g, 0, none⟩) n cap := by
   rcases hFo.2 with ⟨a1, a2⟩ | ⟨g, cap, cur, a1, _⟩
   ·omega
   ·exact ⟨g, cap, a1⟩
  rw [hfv] at yo hFo
  have hl1 : (i64s (F o)).length = n * 1 := by simp [i64s, hlo]
  have hcell : ∀ j u, (i64s (F o))[j]? = some u → (W7.alloc (.cells #[] 2)).cell? ((⟨g, 0, none⟩ : Addr).add j) = some u := fun j u hu => (hFo.alloc (.cells #[] 2)).cells (g := g) rfl j u hu
  have hone : ∀ u ∈ i64s (F o), u.oneCell' = true := by
   intro u hu
   simp only [i64s, List.mem_map] at hu
   obtain ⟨x, _, rfl⟩ := hu
   rfl
  have hn3 : n ≤ 3000 := by omega
  have HA1 := Lib.hid hl1
  have HA2 := Lib.hid hcell
  have HA3 := Lib.hid hone
  clear hl1 hcell hone hfv hFo
  go_wp2_with (at_builtin; refine wpList_append_own _ rfl (.tmp 65) (.tmp 71) 34 rfl W7.heap.size 2 i2 (.int .i64 0) 1 8 Tryz.underlying34 ji jz0 jz1 jz2 rfl (by decide) _ _ _ rfl (World.ownsRow_lit W7 #[] 0 (Nat.le_refl _) (by simp [maxLen]) rfl) ⟨g, 0, none⟩ n cap (i64s (F o)) rfl HA1.out HA2.out HA3.out (by unfold maxLen; omega) (by omega) (by simp) ?_; intro v8 w8 hown hgrow hnil; simp only [List.nil_append, Nat.zero_add] at hown; obtain ⟨to, tc, hto⟩ := own_form hown; subst hto)
  obtain ⟨tb, hto⟩ : ∃ tb, to = some ⟨tb, 0, none⟩ := by
   rcases hown.2 with ⟨a1, a2⟩ | ⟨tb, cap2, cur, a1, _⟩
   ·omega
   ·simp at a1; exact ⟨tb, a1.1⟩
  subst hto
  have b8 : Below W7.heap.size W7 w8 := ((Below.refl _ _).alloc (Nat.le_refl _) _).grown hgrow (by simp) (fun k e => by have e' : some W7.heap.size = some k := e; cases e'; exact Nat.le_refl _)
  obtain ⟨ht1, ht2⟩ := hown.lt tb rfl
  have htc : ∀ k, k < n → w8.cell? ⟨tb, k, none⟩ = some (.int .i64 ((F o).getD k 0)) := fun k hk => by
   refine (hown.cellAt k (by omega)).trans ?_
   simp [i64s, List.getD_eq_getElem?_getD, List.getElem?_eq_getElem (show k < (F o).length by omega)]
  have htk : ∃ cur, w8.heap[tb]? = some (Obj.cells cur 2 (0, 0)) := (own_block hown).imp fun _ h => h.1
  have HW8 := Lib.hid (And.intro htc (And.intro b8 htk))
  clear hown hgrow hnil b8 htc htk HA1 HA2 HA3
  go_loopw [11] (fun i wr => ∃ k : Nat, k ≤ n ∧ i = .int .i64 (k : Int) ∧ Brd B0 wr bd ag mb 3 sd lb lcap vs c K (fun g => if g = h then mixK (· + ·) (F h) (F o) k else F g) (fun k => if k = h + 1 then stZip c (· + ·) (cs (h + 1)) (cs (o + 1)) else cs k) kv fv ∧ Upd (fun k => B0 ≤ k) w wr ∧ wr.heap[w.heap.size]? = W7.heap[w.heap.size]? ∧ wr.heap[tb]? = w8.heap[tb]? ∧ w8.heap.size ≤ wr.heap.size) (fun i _ => n - (intOf i).toNat)
  case atStart =>
   obtain ⟨S7, kU7, x7, hnn⟩ := HF.out
   obtain ⟨htc, b8, htk⟩ := HW8.out
   refine ⟨0, by omega, rfl, (S7.below b8).congr (fun g g3 => ?_), kU7.trans (Upd.of_below b8), b8.block _ (lt_of_block x7), rfl, Nat.le_refl _⟩
   by_cases e : g = h
   ·subst e; simp [mixK_zero]
   ·simp [e]
  case round =>
   obtain ⟨k, hk, rfl, Sr, kU, hbx, htb, hsz⟩ := hrel
   obtain ⟨S7, kU7, x7, hnn⟩ := HF.out
   obtain ⟨htc, b8, htk⟩ := HW8.out
   by_cases hlt : k < n
   ·have hkK : k < K.length := by omega
    obtain ⟨gh, ch, hvh, hch⟩ := Sr.r.val hh3 hkK
    simp only [if_true] at hch
    rw [mixK_at _ _ _ _ (by omega) (by omega)] at hch
    have yh := Sr.r.cellF hh3
    rw [hvh] at yh
    have xr := hbx.trans x7
    have p0 := cell_of_heap xr 0 _ rfl
    obtain ⟨tcur, htkk⟩ := htk
    have ct : wr.cell? ⟨tb, k, none⟩ = some (.int .i64 ((F o).getD k 0)) := (World.cell?_of_block htb).trans (htc k hlt)
    have lr := lt_of_block Sr.r.hd
    have lgh := ((Sr.r.fr h hh3).lt gh (by rw [hvh]; rfl)).2
    have lgh7 := ((S7.r.fr h hh3).lt gh (by rw [hvh]; rfl)).2
    have b1 := (A.fb h hh3).getD (by omega) k
    have b2 := (A.fb o ho3).getD (by omega) k
    have hset := mixK_set (· + ·) (F h) (F o) k (by omega) (by omega)
    obtain ⟨x, hx⟩ : ∃ x, (F h).getD k 0 = x := ⟨_, rfl⟩
    obtain ⟨y, hy⟩ : ∃ y, (F o).getD k 0 = y := ⟨_, rfl⟩
    rw [hx] at hch b1 hset
    rw [hy] at ct b2 hset
    rw [hnn] at yh
    have HR := Lib.hid (And.intro Sr (And.intro kU (And.intro hbx (And.intro htb (And.intro hvh (And.intro hkK hset))))))
    have ltb : tb < wr.heap.size := by omega
    clear Sr kU hbx htb hvh hset hx hy S7 kU7 x7 htc b8 xr htkk hnn
    go_wp2_with fail
    refine wp_region_mixA wr.heap.size [0, 1, 2, 3, 4, 5, 6, 7, 8, 9, 10, 11, 12, 13, 14, 15, 16, 17, 18, 19, 20] [21, 22] (by kernel_rfl) (by kernel_rfl) rfl ?_
    simp only [opsAt, List.map_cons, List.map_nil, List.getElem?_toArray, List.getElem?_cons_zero, List.getElem?_cons_succ, Option.getD_some]
    have za := fun k : After wr.heap.size wr => k.cell lr yh
    have zb := fun k : After wr.heap.size wr => k.cell lgh hch
    have zc := fun k : After wr.heap.size wr => k.cell ltb ct
    repeat (go_big_quiet_step (fail))
    refine wpQuiet_nil ?_
    intro kk
    unfold calmQ
    have kb := kk.h
    clear za zb zc
    obtain ⟨W9, hw1⟩ : ∃ W9, kk.w = W9 := ⟨_, rfl⟩
    rw [hw1] at kb
    rw [hw1]
    clear hw1
    have S9 := HR.out.1.below kb
    have kU9 := HR.out.2.1.trans (Upd.of_below kb)
    obtain ⟨P9, u9⟩ := S9.r.put hh3 HR.out.2.2.2.2.2.1 HR.out.2.2.2.2.1 (x + y)
    have S10 := S9.rows P9 u9 (fun b hb => .inl hb)
    have kU10 := kU9.trans (u9.mono (fun k hk => S9.r.blo k hk))
    have fz : W9.frozen? ⟨gh, k, none⟩ = false := by
     obtain ⟨cur, hc⟩ := S9.r.r.fk hh3 (show (fv h).ownBlock = some gh by rw [HR.out.2.2.2.2.1]; rfl)
     simp [World.frozen?, hc]
    have yv := (kb.cell (p := ⟨gh, k, none⟩) lgh).trans hch
    have l9 : gh < W9.heap.size := Nat.lt_of_lt_of_le lgh kb.size
    have z9 := kb.size
    have x9 : (W9.setCell ⟨gh, k, none⟩ (.int .i64 (x + y))).heap[w.heap.size]? = W7.heap[w.heap.size]? := by
     refine (heap_setCell_other _ _ _ _ (fun e => ?_)).trans ((kb.block _ (by omega)).trans HR.out.2.2.1)
     obtain ⟨cur, hc⟩ := HF.out.1.r.r.fk hh3 (show (fv h).ownBlock = some gh by rw [HR.out.2.2.2.2.1]; rfl)
     exact kind_ne HF.out.2.2.1 hc (by decide) e
    have t9 : (W9.setCell ⟨gh, k, none⟩ (.int .i64 (x + y))).heap[tb]? = w8.heap[tb]? :=
     (heap_setCell_other _ _ _ _ (by dsimp only; omega)).trans ((kb.block _ ltb).trans HR.out.2.2.2.1)
    have HQ := Lib.hid (And.intro S10 (And.intro kU10 (And.intro x9 t9)))
    clear S9 kU9 P9 u9 S10 kU10 x9 t9 hch yh p0
    go_wp2_with fail
    go_roundw
    case rel =>
     refine ⟨k + 1, by omega, by simp, HQ.out.1.congr (fun g g3 => ?_), HQ.out.2.1, HQ.out.2.2.1, HQ.out.2.2.2, by simp; omega⟩
     by_cases e : g = h
     ·subst e
      simp only [if_true]
      exact HR.out.2.2.2.2.2.2
     ·simp only [if_neg e]
    case measure => simp [intOf]; omega
   ·obtain rfl : k = n := by omega
    have S10 : Brd B0 wr bd ag mb 3 sd lb lcap vs c K (pairF (· + ·) F h o) (pairC c (· + ·) cs h o) kv fv := by
     refine Sr.congr (fun g g3 => ?_)
     unfold pairF
     by_cases e : g = h
     ·subst e; simp only [if_true]; exact mixK_all _ _ _ _ (by omega) (by omega)
     ·simp only [if_neg e]
    have HQ := Lib.hid (And.intro S10 kU)
    clear S10 Sr kU hbx htb S7 kU7 x7 htc b8 htk
    go_wp2_with fail
    go_ret
    exact ⟨by first | rfl | simp [sOf_toList], ⟨kv, fv, HQ.out.1⟩, HQ.out.2⟩
theorem does_minus (S : Brd B0 w bd ag mb 3 sd lb lcap vs c K F cs kv fv) (R : c.Ok) (M : Int) (N : Nat) (A : AbOk c M N K F cs) (hM : 1048576 ≤ M) (hM2 : M ≤ 562949953421312) (hN : N ≤ 3000) (hm : c.m ≠ 2) (H O D : Int) (key : Nat) :
  Calls Tryz.prog 38 #[.pointer (some ⟨bd, 0, none⟩), .agg #[.int .i64 4, .int .i64 H, .int .i64 O, .int .u64 (key : Int), .int .i64 D]] w fun e w' => e = .returned (.bool true) ∧ (∃ kv' fv', Brd B0 w' bd ag mb 3 sd lb lcap vs c K (pairF (· - ·) F (handN H) (handN O)) (pairC c (· - ·) cs (handN H) (handN O)) kv' fv') ∧ Upd (fun k => B0 ≤ k) w w' := by
 have kb : Below w.heap.size w (w.alloc (.cells #[.int .i64 4, .int .i64 H, .int .i64 O, .int .u64 (key : Int), .int .i64 D] 84)) := (Below.refl _ _).alloc (Nat.le_refl _) _
 have x0 : (w.alloc (.cells #[.int .i64 4, .int .i64 H, .int .i64 O, .int .u64 (key : Int), .int .i64 D] 84)).heap[w.heap.size]? = some (Obj.cells #[.int .i64 4, .int .i64 H, .int .i64 O, .int .u64 (key : Int), .int .i64 D] 84 (0, 0)) := heap_alloc_at _ rfl
 have S1 := S.below kb
 obtain ⟨W, hW⟩ : ∃ W, w.alloc (.cells #[.int .i64 4, .int .i64 H, .int .i64 O, .int .u64 (key : Int), .int .i64 D] 84) = W := ⟨_, rfl⟩
 rw [hW] at kb x0 S1
 have lx := lt_of_block x0
 have q0 := cell_of_heap x0 0 _ rfl
 have q1 := cell_of_heap x0 1 _ rfl
 have q2 := cell_of_heap x0 2 _ rfl
 have q3 := cell_of_heap x0 3 _ rfl
 have q4 := cell_of_heap x0 4 _ rfl
 have HH := Lib.hid fun (a : Int) (w : World) => ghandle_any a w
 have hh3 := handN_lt H
 have ho3 := handN_lt O
 have ehH := handN_int H
 have ehO := handN_int O
 obtain ⟨h, hh⟩ : ∃ h, handN H = h := ⟨_, rfl⟩
 obtain ⟨o, ho⟩ : ∃ o, handN O = o := ⟨_, rfl⟩
 try rw [hh, ho]
 rw [hh] at hh3 ehH
 rw [ho] at ho3 ehO
 have EH := Lib.hid ehH
 have EO := Lib.hid ehO
 have ya := fun k : After W.heap.size W => k.cell (b := bd) (o := 0) (lt_of_block S1.r.hd) (cell_of_heap S1.r.hd 0 _ rfl)
 have HT1 := Lib.hid fun w => gtext_any ((h : Int) + 1) (by omega) (by omega) w
 have HT2 := Lib.hid fun w => gtext_any ((o : Int) + 1) (by omega) (by omega) w
 have s1 := text_size ((h : Int) + 1) (by omega) (by omega)
 have s2 := text_size ((o : Int) + 1) (by omega) (by omega)
 obtain ⟨R1, hR1⟩ : ∃ R1, sOf (Lib.itoa ((h : Int) + 1)) = R1 := ⟨_, rfl⟩
 obtain ⟨R2, hR2⟩ : ∃ R2, sOf (Lib.itoa ((o : Int) + 1)) = R2 := ⟨_, rfl⟩
 rw [hR1] at HT1 s1
 rw [hR2] at HT2 s2
 have hcat := ln_cat2 [115, 117, 98, 116, 114, 97, 99, 116] ⟨#[115, 117, 98, 116, 114, 97, 99, 116, 32]⟩ R1 R2 ((h : Int) + 1) ((o : Int) + 1) rfl hR1.symm hR2.symm
 have HC := Lib.hid hcat
 have HS := Lib.hid (And.intro S1 (And.intro kb x0))
 clear hh ho S S1 x0 ehH ehO hR1 hR2 hcat kb
 go_enter Tryz.func38, Tryz.ntmps38
 go_wp2_with fail
 refine (HH.out H _).mono ?_
 rintro e w1 ⟨rfl, rfl⟩
 rw [← EH.out]
 go_wp2_with fail
 refine (HH.out O _).mono ?_
 rintro e w1 ⟨rfl, rfl⟩
 rw [← EO.out]
 go_wp2_with fail
 refine wp_region_mixA w1.heap.size [0, 1, 2, 3, 4, 5, 6, 7, 8, 9, 10, 11, 12, 13] [14, 15, 16, 17, 18, 19] (by kernel_rfl) (by kernel_rfl) rfl ?_
 simp only [opsAt, List.map_cons, List.map_nil, List.getElem?_toArray, List.getElem?_cons_zero, List.getElem?_cons_succ, Option.getD_some]
 repeat (go_big_quiet_step (((go_at_call 14; first | exact after_of (Nat.le_refl _) _ (HT1.out _) | exact after_of (Nat.le_refl _) _ (HT2.out _)))))
 refine wpQuiet_nil ?_
 intro kk
 unfold calmQ
 have kb := kk.h
 obtain ⟨W6, hw1⟩ : ∃ W6, kk.w = W6 := ⟨_, rfl⟩
 rw [hw1] at kb
 rw [hw1]
 clear hw1
 have S6 := HS.out.1.below kb
 have kU6 := (Upd.of_below HS.out.2.1 : Upd (fun k => B0 ≤ k) w w1).trans (Upd.of_below kb)
 have x6 := (kb.block _ lx).trans HS.out.2.2
 have p0 := cell_of_heap x6 0 _ rfl
 clear q0 q1 q2 q3 q4 ya
 have HL := Lib.hid (ln_sub S6.a R (by decide) (h + 1) (o + 1) (by omega) (by omega) (by omega) (by omega) (fun l hl x hx => by have := A.cb h hh3 l hl x hx; omega) (fun l hl x hx => by have := A.cb o ho3 l hl x hx; omega) hm _ HC.out)
 have HS6 := Lib.hid (And.intro S6 (And.intro kU6 x6))
 have l6 := lt_of_block S6.r.hd
 have hm2 : ((c.m : Int) == 2) = false := by simp; omega
 clear S6 kU6 x6 kb p0 hm
 go_wp2_with fail
 refine HL.out.mono ?_
 rintro e W7 ⟨rfl, A7, u7⟩
 have S7 := HS6.out.1.line A7 u7
 have kU7 := HS6.out.2.1.trans (u7.mono (fun k hk => HS6.out.1.flo k hk))
 have x7 := (u7.block _ (lt_of_block HS6.out.2.2) (HS6.out.1.not_foot HS6.out.2.2 (by decide) (by decide))).trans HS6.out.2.2
 have p0 := cell_of_heap x7 0 _ rfl
 have p4 := cell_of_heap S7.r.hd 4 _ rfl
 have yo := S7.r.cellF ho3
 have hFo := S7.r.fr o ho3
 have hlo := A.len o ho3
 have hlh := A.len h hh3
 have hfw := A.few
 obtain ⟨n, hn⟩ : ∃ n, K.length = n := ⟨_, rfl⟩
 rw [hn] at hFo hlo hlh hfw
 have HF := Lib.hid (And.intro S7 (And.intro kU7 (And.intro x7 hn)))
 have l7 := lt_of_block S7.r.hd
 have l7x := lt_of_block x7
 obtain ⟨i2, ji, jz0, jz1, jz2⟩ := info_parts Tryz.info2
 clear S7 kU7 x7 A7 u7 hn HL
 rcases Nat.eq_zero_or_pos n with hn0 | hnp
 ·subst hn0
  have e1 : F h = [] := List.length_eq_zero_iff.1 hlh
  have e2 : F o = [] := List.length_eq_zero_iff.1 hlo
  have key0 : ∀ W : World, Below W7.heap.size W7 W → (∃ kv' fv', Brd B0 W bd ag mb 3 sd lb lcap vs c K (pairF (· - ·) F h o) (pairC c (· - ·) cs h o) kv' fv') ∧ Upd (fun k => B0 ≤ k) w W := by
   intro W hb
   refine ⟨⟨kv, fv, (HF.out.1.below hb).congr (fun g g3 => ?_)⟩, HF.out.2.1.trans (Upd.of_below hb)⟩
   unfold pairF
   by_cases e : g = h
   ·subst e; simp [e1, e2, zipI]
   ·simp [e]
  have HK0 := Lib.hid key0
  clear key0
  rcases hFo.2 with ⟨a1, _⟩ | ⟨g, cap, cur, a1, _⟩
  ·rw [a1] at yo
   clear a1 hFo
   go_wp2_with fail
   go_loop [11] (fun i => i = .int .i64 0) (fun _ => 0)
   case atStart => rfl
   case round =>
    subst hrel
    go_wp2_with fail
    go_ret
    have kz := HK0.out _ ((Below.refl _ W7).alloc (Nat.le_refl _) (.cells #[] 2))
    exact ⟨by first | rfl | simp [sOf_toList], kz.1, kz.2⟩
  ·rw [a1] at yo
   clear a1 hFo
   go_wp2_with fail
   go_loop [11] (fun i => i = .int .i64 0) (fun _ => 0)
   case atStart => rfl
   case round =>
    subst hrel
    go_wp2_with fail
    go_ret
    have kz := HK0.out _ ((Below.refl _ W7).alloc (Nat.le_refl _) (.cells #[] 2))
    exact ⟨by first | rfl | simp [sOf_toList], kz.1, kz.2⟩
 ·obtain ⟨g, cap, hfv⟩ : ∃ g cap, fv o = .slice (some ⟨g, 0, none⟩) n cap := by
   rcases hFo.2 with ⟨a1, a2⟩ | ⟨g, cap, cur, a1, _⟩
   ·omega
   ·exact ⟨g, cap, a1⟩
  rw [hfv] at yo hFo
  have hl1 : (i64s (F o)).length = n * 1 := by simp [i64s, hlo]
  have hcell : ∀ j u, (i64s (F o))[j]? = some u → (W7.alloc (.cells #[] 2)).cell? ((⟨g, 0, none⟩ : Addr).add j) = some u := fun j u hu => (hFo.alloc (.cells #[] 2)).cells (g := g) rfl j u hu
  have hone : ∀ u ∈ i64s (F o), u.oneCell' = true := by
   intro u hu
   simp only [i64s, List.mem_map] at hu
   obtain ⟨x, _, rfl⟩ := hu
   rfl
  have hn3 : n ≤ 3000 := by omega
  have HA1 := Lib.hid hl1
  have HA2 := Lib.hid hcell
  have HA3 := Lib.hid hone
  clear hl1 hcell hone hfv hFo
  go_wp2_with (at_builtin; refine wpList_append_own _ rfl (.tmp 65) (.tmp 71) 34 rfl W7.heap.size 2 i2 (.int .i64 0) 1 8 Tryz.underlying34 ji jz0 jz1 jz2 rfl (by decide) _ _ _ rfl (World.ownsRow_lit W7 #[] 0 (Nat.le_refl _) (by simp [maxLen]) rfl) ⟨g, 0, none⟩ n cap (i64s (F o)) rfl HA1.out HA2.out HA3.out (by unfold maxLen; omega) (by omega) (by simp) ?_; intro v8 w8 hown hgrow hnil; simp only [List.nil_append, Nat.zero_add] at hown; obtain ⟨to, tc, hto⟩ := own_form hown; subst hto)
  obtain ⟨tb, hto⟩ : ∃ tb, to = some ⟨tb, 0, none⟩ := by
   rcases hown.2 with ⟨a1, a2⟩ | ⟨tb, cap2, cur, a1, _⟩
   ·omega
   ·simp at a1; exact ⟨tb, a1.1⟩
  subst hto
  have b8 : Below W7.heap.size W7 w8 := ((Below.refl _ _).alloc (Nat.le_refl _) _).grown hgrow (by simp) (fun k e => by have e' : some W7.heap.size = some k := e; cases e'; exact Nat.le_refl _)
  obtain ⟨ht1, ht2⟩ := hown.lt tb rfl
  have htc : ∀ k, k < n → w8.cell? ⟨tb, k, none⟩ = some (.int .i64 ((F o).getD k 0)) := fun k hk => by
   refine (hown.cellAt k (by omega)).trans ?_
   simp [i64s, List.getD_eq_getElem?_getD, List.getElem?_eq_getElem (show k < (F o).length by omega)]
  have htk : ∃ cur, w8.heap[tb]? = some (Obj.cells cur 2 (0, 0)) := (own_block hown).imp fun _ h => h.1
  have HW8 := Lib.hid (And.intro htc (And.intro b8 htk))
  clear hown hgrow hnil b8 htc htk HA1 HA2 HA3
  go_loopw [11] (fun i wr => ∃ k : Nat, k ≤ n ∧ i = .int .i64 (k : Int) ∧ Brd B0 wr bd ag mb 3 sd lb lcap vs c K (fun g => if g = h then mixK (· - ·) (F h) (F o) k else F g) (fun k => if k = h + 1 then stZip c (· - ·) (cs (h + 1)) (cs (o + 1)) else cs k) kv fv ∧ Upd (fun k => B0 ≤ k) w wr ∧ wr.heap[w.heap.size]? = W7.heap[w.heap.size]? ∧ wr.heap[tb]? = w8.heap[tb]? ∧ w8.heap.size ≤ wr.heap.size) (fun i _ => n - (intOf i).toNat)
  case atStart =>
   obtain ⟨S7, kU7, x7, hnn⟩ := HF.out
   obtain ⟨htc, b8, htk⟩ := HW8.out
   refine ⟨0, by omega, rfl, (S7.below b8).congr (fun g g3 => ?_), kU7.trans (Upd.of_below b8), b8.block _ (lt_of_block x7), rfl, Nat.le_refl _⟩
   by_cases e : g = h
   ·subst e; simp [mixK_zero]
   ·simp [e]
  case round =>
   obtain ⟨k, hk, rfl, Sr, kU, hbx, htb, hsz⟩ := hrel
   obtain ⟨S7, kU7, x7, hnn⟩ := HF.out
   obtain ⟨htc, b8, htk⟩ := HW8.out
   by_cases hlt : k < n
   ·have hkK : k < K.length := by omega
    obtain ⟨gh, ch, hvh, hch⟩ := Sr.r.val hh3 hkK
    simp only [if_true] at hch
    rw [mixK_at _ _ _ _ (by omega) (by omega)] at hch
    have yh := Sr.r.cellF hh3
    rw [hvh] at yh
    have xr := hbx.trans x7
    have p0 := cell_of_heap xr 0 _ rfl
    obtain ⟨tcur, htkk⟩ := htk
    have ct : wr.cell? ⟨tb, k, none⟩ = some (.int .i64 ((F o).getD k 0)) := (World.cell?_of_block htb).trans (htc k hlt)
    have lr := lt_of_block Sr.r.hd
    have lgh := ((Sr.r.fr h hh3).lt gh (by rw [hvh]; rfl)).2
    have lgh7 := ((S7.r.fr h hh3).lt gh (by rw [hvh]; rfl)).2
    have b1 := (A.fb h hh3).getD (by omega) k
    have b2 := (A.fb o ho3).getD (by omega) k
    have hset := mixK_set (· - ·) (F h) (F o) k (by omega) (by omega)
    obtain ⟨x, hx⟩ : ∃ x, (F h).getD k 0 = x := ⟨_, rfl⟩
    obtain ⟨y, hy⟩ : ∃ y, (F o).getD k 0 = y := ⟨_, rfl⟩
    rw [hx] at hch b1 hset
    rw [hy] at ct b2 hset
    rw [hnn] at yh
    have HR := Lib.hid (And.intro Sr (And.intro kU (And.intro hbx (And.intro htb (And.intro hvh (And.intro hkK hset))))))
    have ltb : tb < wr.heap.size := by omega
    clear Sr kU hbx htb hvh hset hx hy S7 kU7 x7 htc b8 xr htkk hnn
    go_wp2_with fail
    refine wp_region_mixA wr.heap.size [0, 1, 2, 3, 4, 5, 6, 7, 8, 9, 10, 11, 12, 13, 14, 15, 16, 17, 18, 19, 20] [21, 22] (by kernel_rfl) (by kernel_rfl) rfl ?_
    simp only [opsAt, List.map_cons, List.map_nil, List.getElem?_toArray, List.getElem?_cons_zero, List.getElem?_cons_succ, Option.getD_some]
    have za := fun k : After wr.heap.size wr => k.cell lr yh
    have zb := fun k : After wr.heap.size wr => k.cell lgh hch
    have zc := fun k : After wr.heap.size wr => k.cell ltb ct
    repeat (go_big_quiet_step (fail))
    refine wpQuiet_nil ?_
    intro kk
    unfold calmQ
    have kb := kk.h
    clear za zb zc
    obtain ⟨W9, hw1⟩ : ∃ W9, kk.w = W9 := ⟨_, rfl⟩
    rw [hw1] at kb
    rw [hw1]
    clear hw1
    have S9 := HR.out.1.below kb
    have kU9 := HR.out.2.1.trans (Upd.of_below kb)
    obtain ⟨P9, u9⟩ := S9.r.put hh3 HR.out.2.2.2.2.2.1 HR.out.2.2.2.2.1 (x - y)
    have S10 := S9.rows P9 u9 (fun b hb => .inl hb)
    have kU10 := kU9.trans (u9.mono (fun k hk => S9.r.blo k hk))
    have fz : W9.frozen? ⟨gh, k, none⟩ = false := by
     obtain ⟨cur, hc⟩ := S9.r.r.fk hh3 (show (fv h).ownBlock = some gh by rw [HR.out.2.2.2.2.1]; rfl)
     simp [World.frozen?, hc]
    have yv := (kb.cell (p := ⟨gh, k, none⟩) lgh).trans hch
    have l9 : gh < W9.heap.size := Nat.lt_of_lt_of_le lgh kb.size
    have z9 := kb.size
    have x9 : (W9.setCell ⟨gh, k, none⟩ (.int .i64 (x - y))).heap[w.heap.size]? = W7.heap[w.heap.size]? := by
     refine (heap_setCell_other _ _ _ _ (fun e => ?_)).trans ((kb.block _ (by omega)).trans HR.out.2.2.1)
     obtain ⟨cur, hc⟩ := HF.out.1.r.r.fk hh3 (show (fv h).ownBlock = some gh by rw [HR.out.2.2.2.2.1]; rfl)
     exact kind_ne HF.out.2.2.1 hc (by decide) e
    have t9 : (W9.setCell ⟨gh, k, none⟩ (.int .i64 (x - y))).heap[tb]? = w8.heap[tb]? :=
     (heap_setCell_other _ _ _ _ (by dsimp only; omega)).trans ((kb.block _ ltb).trans HR.out.2.2.2.1)
    have HQ := Lib.hid (And.intro S10 (And.intro kU10 (And.intro x9 t9)))
    clear S9 kU9 P9 u9 S10 kU10 x9 t9 hch yh p0
    go_wp2_with fail
    go_roundw
    case rel =>
     refine ⟨k + 1, by omega, by simp, HQ.out.1.congr (fun g g3 => ?_), HQ.out.2.1, HQ.out.2.2.1, HQ.out.2.2.2, by simp; omega⟩
     by_cases e : g = h
     ·subst e
      simp only [if_true]
      exact HR.out.2.2.2.2.2.2
     ·simp only [if_neg e]
    case measure => simp [intOf]; omega
   ·obtain rfl : k = n := by omega
    have S10 : Brd B0 wr bd ag mb 3 sd lb lcap vs c K (pairF (· - ·) F h o) (pairC c (· - ·) cs h o) kv fv := by
     refine Sr.congr (fun g g3 => ?_)
     unfold pairF
     by_cases e : g = h
     ·subst e; simp only [if_true]; exact mixK_all _ _ _ _ (by omega) (by omega)
     ·simp only [if_neg e]
    have HQ := Lib.hid (And.intro S10 kU)
    clear S10 Sr kU hbx htb S7 kU7 x7 htc b8 htk
    go_wp2_with fail
    go_ret
    exact ⟨by first | rfl | simp [sOf_toList], ⟨kv, fv, HQ.out.1⟩, HQ.out.2⟩
end Go.Proofs.YtbhppbeepmllaaaGreatDoor
