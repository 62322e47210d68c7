import Derived.Test.YtbhppbeepmllaaaGreatDoorM3602d81b
set_option linter.unusedVariables false
set_option linter.unusedSimpArgs false
set_option maxRecDepth 100000
set_option maxHeartbeats 2000000
namespace Go.Proofs.YtbhppbeepmllaaaGreatDoor
open Go.RowKit

variable {B0 : Nat} {w w' w1 : World} {bd ag mb n : Nat} {sd lb lcap : Nat → Nat} {vs : Nat → Nat → Lv} {c : Cfg} {cs cs' : Nat → Nat → List Int} {K K' : List Nat} {F F' L : Nat → List Int} {kv kv' : Value} {fv fv' : Nat → Value}
def mixK (f : Int → Int → Int) (a b : List Int) (k : Nat) : List Int := zipI f (a.take k) (b.take k) ++ a.drop k
theorem mixK_len (f : Int → Int → Int) (a b : List Int) (k : Nat) (h : b.length = a.length) : (mixK f a b k).length = a.length := by
 simp [mixK, zipI_len, h]; omega
theorem mixK_at (f : Int → Int → Int) (a b : List Int) (k : Nat) (h : b.length = a.length) (hk : k < a.length) : (mixK f a b k).getD k 0 = a.getD k 0 := by
 have hl : (zipI f (a.take k) (b.take k)).length = k := by simp [zipI_len, h]; omega
 unfold mixK
 rw [List.getD_eq_getElem?_getD, List.getElem?_append_right (by omega), hl, Nat.sub_self, List.getElem?_drop]
 simp [List.getD_eq_getElem?_getD]
theorem mixK_set (f : Int → Int → Int) (a b : List Int) (k : Nat) (h : b.length = a.length) (hk : k < a.length) : (mixK f a b k).set k (f (a.getD k 0) (b.getD k 0)) = mixK f a b (k + 1) := by
 have hl : (zipI f (a.take k) (b.take k)).length = k := by simp [zipI_len, h]; omega
 unfold mixK
 rw [List.set_append_right _ _ (by omega), hl, Nat.sub_self, List.drop_eq_getElem_cons hk]
 have e : zipI f (a.take (k + 1)) (b.take (k + 1)) = zipI f (a.take k) (b.take k) ++ [f (a.getD k 0) (b.getD k 0)] := by
  unfold zipI
  rw [List.take_succ_eq_append_getElem hk, List.take_succ_eq_append_getElem (show k < b.length by omega), List.zipWith_append (by simp [h])]
  simp [List.getD_eq_getElem?_getD, List.getElem?_eq_getElem hk, List.getElem?_eq_getElem (show k < b.length by omega)]
 rw [e, List.set_cons_zero, List.append_assoc]
 rfl
theorem mixK_zero (f : Int → Int → Int) (a b : List Int) : mixK f a b 0 = a := by simp [mixK, zipI]
theorem mixK_all (f : Int → Int → Int) (a b : List Int) (k : Nat) (h : b.length = a.length) (hk : k = a.length) : mixK f a b k = zipI f a b := by
 subst hk
 unfold mixK
 rw [List.take_length, ← h, List.take_length, h, List.drop_length, List.append_nil]
theorem does_subno (S : Brd B0 w bd ag mb 3 sd lb lcap vs c K F cs kv fv) (R : c.Ok) (M : Int) (N : Nat) (A : AbOk c M N K F cs) (hM : 1048576 ≤ M) (hM2 : M ≤ 562949953421312) (hN : N ≤ 3000) (hm : c.m = 2) (H O D : Int) (key : Nat) :
  Calls Tryz.prog 38 #[.pointer (some ⟨bd, 0, none⟩), .agg #[.int .i64 4, .int .i64 H, .int .i64 O, .int .u64 (key : Int), .int .i64 D]] w fun e w' => e = .returned (.bool true) ∧ (∃ kv' fv', Brd B0 w' bd ag mb 3 sd lb lcap vs c K F cs kv' fv') ∧ Upd (fun k => B0 ≤ k) w w' := by
 have kb : Below w.heap.size w (w.alloc (.cells #[.int .i64 4, .int .i64 H, .int .i64 O, .int .u64 (key : Int), .int .i64 D] 84)) := (Below.refl _ _).alloc (Nat.le_refl _) _
 have x0 : (w.alloc (.cells #[.int .i64 4, .int .i64 H, .int .i64 O, .int .u64 (key : Int), .int .i64 D] 84)).heap[w.heap.size]? = some (Obj.cells #[.int .i64 4, .int .i64 H, .int .i64 O, .int .u64 (key : Int), .int .i64 D] 84 (0, 0)) := heap_alloc_at _ rfl
 have S1 := S.below kb
 obtain ⟨W, hW⟩ : ∃ W, w.alloc (.cells #[.int .i64 4, .int .i64 H, .int .i64 O, .int .u64 (key : Int), .int .i64 D] 84) = W := ⟨_, rfl⟩
 rw [hW] at kb x0 S1
 have lx := lt_of_block x0
 have q0 := cell_of_heap x0 0 _ rfl
 have q1 := cell_of_heap x0 1 _ rfl
 have q2 := cell_of_heap x0 2 _ rfl
 have q3 := cell_of_heap x0 3 _ rfl
 have q4 := cell_of_heap x0 4 _ rfl
 have HH := Lib.hid fun (a : Int) (w : World) => ghandle_any a w
 have hh3 := handN_lt H
 have ho3 := handN_lt O
 have ehH := handN_int H
 have ehO := handN_int O
 obtain ⟨h, hh⟩ : ∃ h, handN H = h := ⟨_, rfl⟩
 obtain ⟨o, ho⟩ : ∃ o, handN O = o := ⟨_, rfl⟩
 try rw [hh, ho]
 rw [hh] at hh3 ehH
 rw [ho] at ho3 ehO
 have EH := Lib.hid ehH
 have EO := Lib.hid ehO
 have ya := fun k : After W.heap.size W => k.cell (b := bd) (o := 0) (lt_of_block S1.r.hd) (cell_of_heap S1.r.hd 0 _ rfl)
 have HT1 := Lib.hid fun w => gtext_any ((h : Int) + 1) (by omega) (by omega) w
 have HT2 := Lib.hid fun w => gtext_any ((o : Int) + 1) (by omega) (by omega) w
 have s1 := text_size ((h : Int) + 1) (by omega) (by omega)
 have s2 := text_size ((o : Int) + 1) (by omega) (by omega)
 obtain ⟨R1, hR1⟩ : ∃ R1, sOf (Lib.itoa ((h : Int) + 1)) = R1 := ⟨_, rfl⟩
 obtain ⟨R2, hR2⟩ : ∃ R2, sOf (Lib.itoa ((o : Int) + 1)) = R2 := ⟨_, rfl⟩
 rw [hR1] at HT1 s1
 rw [hR2] at HT2 s2
 have hcat := ln_cat2 [115, 117, 98, 116, 114, 97, 99, 116] ⟨#[115, 117, 98, 116, 114, 97, 99, 116, 32]⟩ R1 R2 ((h : Int) + 1) ((o : Int) + 1) rfl hR1.symm hR2.symm
 have HC := Lib.hid hcat
 have HS := Lib.hid (And.intro S1 (And.intro kb x0))
 clear hh ho S S1 x0 ehH ehO hR1 hR2 hcat kb
 go_enter Tryz.func38, Tryz.ntmps38
 go_wp2_with fail
 refine (HH.out H _).mono ?_
 rintro e w1 ⟨rfl, rfl⟩
 rw [← EH.out]
 go_wp2_with fail
 refine (HH.out O _).mono ?_
 rintro e w1 ⟨rfl, rfl⟩
 rw [← EO.out]
 go_wp2_with fail
 refine wp_region_mixA w1.heap.size [0, 1, 2, 3, 4, 5, 6, 7, 8, 9, 10, 11, 12, 13] [14, 15, 16, 17, 18, 19] (by kernel_rfl) (by kernel_rfl) rfl ?_
 simp only [opsAt, List.map_cons, List.map_nil, List.getElem?_toArray, List.getElem?_cons_zero, List.getElem?_cons_succ, Option.getD_some]
 repeat (go_big_quiet_step (((go_at_call 14; first | exact after_of (Nat.le_refl _) _ (HT1.out _) | exact after_of (Nat.le_refl _) _ (HT2.out _)))))
 refine wpQuiet_nil ?_
 intro kk
 unfold calmQ
 have kb := kk.h
 obtain ⟨W6, hw1⟩ : ∃ W6, kk.w = W6 := ⟨_, rfl⟩
 rw [hw1] at kb
 rw [hw1]
 clear hw1
 have S6 := HS.out.1.below kb
 have kU6 := (Upd.of_below HS.out.2.1 : Upd (fun k => B0 ≤ k) w w1).trans (Upd.of_below kb)
 have x6 := (kb.block _ lx).trans HS.out.2.2
 have p0 := cell_of_heap x6 0 _ rfl
 clear q0 q1 q2 q3 q4 ya
 have HL := Lib.hid (ln_subno S6.a R (by decide) (h + 1) (o + 1) (by omega) (by omega) (by omega) (by omega) hm _ HC.out)
 have HS6 := Lib.hid (And.intro S6 (And.intro kU6 x6))
 have l6 := lt_of_block S6.r.hd
 have hm2 : ((c.m : Int) == 2) = true := by simp; omega
 clear S6 kU6 x6 kb p0 hm
 go_wp2_with fail
 refine HL.out.mono ?_
 rintro e W7 ⟨rfl, b7⟩
 have S7 := HS6.out.1.below b7
 have kU7 := HS6.out.2.1.trans (Upd.of_below b7)
 have x7 := (b7.block _ (lt_of_block HS6.out.2.2)).trans HS6.out.2.2
 have p0 := cell_of_heap x7 0 _ rfl
 have p4 := cell_of_heap S7.r.hd 4 _ rfl
 have HF := Lib.hid (And.intro S7 kU7)
 clear S7 kU7 x7 b7
 go_wp2_with fail
 go_ret
 exact ⟨by first | rfl | simp [sOf_toList], ⟨kv, fv, HF.out.1⟩, HF.out.2⟩
theorem does_merge (S : Brd B0 w bd ag mb 3 sd lb lcap vs c K F cs kv fv) (R : c.Ok) (M : Int) (N : Nat) (A : AbOk c M N K F cs) (hM : 1048576 ≤ M) (hM2 : M ≤ 562949953421312) (hN : N ≤ 3000)  (H O D : Int) (key : Nat) :
  Calls Tryz.prog 38 #[.pointer (some ⟨bd, 0, none⟩), .agg #[.int .i64 3, .int .i64 H, .int .i64 O, .int .u64 (key : Int), .int .i64 D]] w fun e w' => e = .returned (.bool true) ∧ (∃ kv' fv', Brd B0 w' bd ag mb 3 sd lb lcap vs c K (pairF (· + ·) F (handN H) (handN O)) (pairC c (· + ·) cs (handN H) (handN O)) kv' fv') ∧ Upd (fun k => B0 ≤ k) w w' := by
 have kb : Below w.heap.size w (w.alloc (.cells #[.int .i64 3, .int .i64 H, .int .i64 O, .int .u64 (key : Int), .int .i64 D] 84)) := (Below.refl _ _).alloc (Nat.le_refl _) _
 have x0 : (w.alloc (.cells #[.int .i64 3, .int .i64 H, .int .i64 O, .int .u64 (key : Int), .int .i64 D] 84)).heap[w.heap.size]? = some (Obj.cells #[.int .i64 3, .int .i64 H, .int .i64 O, .int .u64 (key : Int), .int .i64 D] 84 (0, 0)) := heap_alloc_at _ rfl
 have S1 := S.below kb
 obtain ⟨W, hW⟩ : ∃ W, w.alloc (.cells #[.int .i64 3, .int .i64 H, .int .i64 O, .int .u64 (key : Int), .int .i64 D] 84) = W := ⟨_, rfl⟩
 rw [hW] at kb x0 S1
 have lx := lt_of_block x0
 have q0 := cell_of_heap x0 0 _ rfl
 have q1 := cell_of_heap x0 1 _ rfl
 have q2 := cell_of_heap x0 2 _ rfl
 have q3 := cell_of_heap x0 3 _ rfl
 have q4 := cell_of_heap x0 4 _ rfl
 have HH := Lib.hid fun (a : Int) (w : World) => ghandle_any a w
 have hh3 := handN_lt H
 have ho3 := handN_lt O
 have ehH := handN_int H
 have ehO := handN_int O
 obtain ⟨h, hh⟩ : ∃ h, handN H = h := ⟨_, rfl⟩
 obtain ⟨o, ho⟩ : ∃ o, handN O = o := ⟨_, rfl⟩
 try rw [hh, ho]
 rw [hh] at hh3 ehH
 rw [ho] at ho3 ehO
 have EH := Lib.hid ehH
 have EO := Lib.hid ehO
 have ya := fun k : After W.heap.size W => k.cell (b := bd) (o := 0) (lt_of_block S1.r.hd) (cell_of_heap S1.r.hd 0 _ rfl)
 have HT1 := Lib.hid fun w => gtext_any ((h : Int) + 1) (by omega) (by omega) w
 have HT2 := Lib.hid fun w => gtext_any ((o : Int) + 1) (by omega) (by omega) w
 have s1 := text_size ((h : Int) + 1) (by omega) (by omega)
 have s2 := text_size ((o : Int) + 1) (by omega) (by omega)
 obtain ⟨R1, hR1⟩ : ∃ R1, sOf (Lib.itoa ((h : Int) + 1)) = R1 := ⟨_, rfl⟩
 obtain ⟨R2, hR2⟩ : ∃ R2, sOf (Lib.itoa ((o : Int) + 1)) = R2 := ⟨_, rfl⟩
 rw [hR1] at HT1 s1
 rw [hR2] at HT2 s2
 have hcat := ln_cat2 [109, 101, 114, 103, 101] ⟨#[109, 101, 114, 103, 101, 32]⟩ R1 R2 ((h : Int) + 1) ((o : Int) + 1) rfl hR1.symm hR2.symm
 have HC := Lib.hid hcat
 have HS := Lib.hid (And.intro S1 (And.intro kb x0))
 clear hh ho S S1 x0 ehH ehO hR1 hR2 hcat kb
 go_enter Tryz.func38, Tryz.ntmps38
 go_wp2_with fail
 refine (HH.out H _).mono ?_
 rintro e w1 ⟨rfl, rfl⟩
 rw [← EH.out]
 go_wp2_with fail
 refine (HH.out O _).mono ?_
 rintro e w1 ⟨rfl, rfl⟩
 rw [← EO.out]
 go_wp2_with fail
 refine wp_region_mixA w1.heap.size [0, 1, 2, 3, 4, 5, 6, 7, 8, 9, 10, 11, 12, 13] [14, 15, 16, 17, 18, 19] (by kernel_rfl) (by kernel_rfl) rfl ?_
 simp only [opsAt, List.map_cons, List.map_nil, List.getElem?_toArray, List.getElem?_cons_zero, List.getElem?_cons_succ, Option.getD_some]
 repeat (go_big_quiet_step (((go_at_call 14; first | exact after_of (Nat.le_refl _) _ (HT1.out _) | exact after_of (Nat.le_refl _) _ (HT2.out _)))))
 refine wpQuiet_nil ?_
 intro kk
 unfold calmQ
 have kb := kk.h
 obtain ⟨W6, hw1⟩ : ∃ W6, kk.w = W6 := ⟨_, rfl⟩
 rw [hw1] at kb
 rw [hw1]
 clear hw1
 have S6 := HS.out.1.below kb
 have kU6 := (Upd.of_below HS.out.2.1 : Upd (fun k => B0 ≤ k) w w1).trans (Upd.of_below kb)
 have x6 := (kb.block _ lx).trans HS.out.2.2
 have p0 := cell_of_heap x6 0 _ rfl
 clear q0 q1 q2 q3 q4 ya
 have HL := Lib.hid (ln_merge S6.a R (by decide) (h + 1) (o + 1) (by omega) (by omega) (by omega) (by omega) (fun l hl x hx => by have := A.cb h hh3 l hl x hx; omega) (fun l hl x hx => by have := A.cb o ho3 l hl x hx; omega) _ HC.out)
 have HS6 := Lib.hid (And.intro S6 (And.intro kU6 x6))
 have l6 := lt_of_block S6.r.hd
 skip
 clear S6 kU6 x6 kb p0
 go_wp2_with fail
 refine HL.out.mono ?_
 rintro e W7 ⟨rfl, A7, u7⟩
 have S7 := HS6.out.1.line A7 u7
 have kU7 := HS6.out.2.1.trans (u7.mono (fun k hk => HS6.out.1.flo k hk))
 have x7 := (u7.block _ (lt_of_block HS6.out.2.2) (HS6.out.1.not_foot HS6.out.2.2 (by decide) (by decide))).trans HS6.out.2.2
 have p0 := cell_of_heap x7 0 _ rfl
 have p4 := cell_of_heap S7.r.hd 4 _ rfl
 have yo := S7.r.cellF ho3
 have hFo := S7.r.fr o ho3
 have hlo := A.len o ho3
 have hlh := A.len h hh3
 have hfw := A.few
 obtain ⟨n, hn⟩ : ∃ n, K.length = n := ⟨_, rfl⟩
 rw [hn] at hFo hlo hlh hfw
 have HF := Lib.hid (And.intro S7 (And.intro kU7 (And.intro x7 hn)))
 have l7 := lt_of_block S7.r.hd
 have l7x := lt_of_block x7
 obtain ⟨i2, ji, jz0, jz1, jz2⟩ := info_parts Tryz.info2
 clear S7 kU7 x7 A7 u7 hn HL
 rcases Nat.eq_zero_or_pos n with hn0 | hnp
 ·subst hn0
  have e1 : F h = [] := List.length_eq_zero_iff.1 hlh
  have e2 : F o = [] := List.length_eq_zero_iff.1 hlo
  have key0 : ∀ W : World, Below W7.heap.size W7 W → (∃ kv' fv', Brd B0 W bd ag mb 3 sd lb lcap vs c K (pairF (· + ·) F h o) (pairC c (· + ·) cs h o) kv' fv') ∧ Upd (fun k => B0 ≤ k) w W := by
   intro W hb
   refine ⟨⟨kv, fv, (HF.out.1.below hb).congr (fun g g3 => ?_)⟩, HF.out.2.1.trans (Upd.of_below hb)⟩
   unfold pairF
   by_cases e : g = h
   ·subst e; simp [e1, e2, zipI]
   ·simp [e]
  have HK0 := Lib.hid key0
  clear key0
  rcases hFo.2 with ⟨a1, _⟩ | ⟨g, cap, cur, a1, _⟩
  ·rw [a1] at yo
   clear a1 hFo
   go_wp2_with fail
   go_loop [11] (fun i => i = .int .i64 0) (fun _ => 0)
   case atStart => rfl
   case round =>
    subst hrel
    go_wp2_with fail
    go_ret
    have kz := HK0.out _ ((Below.refl _ W7).alloc (Nat.le_refl _) (.cells #[] 2))
    exact ⟨by first | rfl | simp [sOf_toList], kz.1, kz.2⟩
  ·rw [a1] at yo
   clear a1 hFo
   go_wp2_with fail
   go_loop [11] (fun i => i = .int .i64 0) (fun _ => 0)
   case atStart => rfl
   case round =>
    subst hrel
    go_wp2_with fail
    go_ret
    have kz := HK0.out _ ((Below.refl _ W7).alloc (Nat.le_refl _) (.cells #[] 2))
    exact ⟨by first | rfl | simp [sOf_toList], kz.1, kz.2⟩
 ·obtain ⟨g, cap, hfv⟩ : ∃ g cap, fv o = .slice (some ⟨g, 0, none⟩) n cap := by
   rcases hFo.2 with ⟨a1, a2⟩ | ⟨g, cap, cur, a1, _⟩
   ·omega
   ·exact ⟨g, cap, a1⟩
  rw [hfv] at yo hFo
  have hl1 : (i64s (F o)).length = n * 1 := by simp [i64s, hlo]
  have hcell : ∀ j u, (i64s (F o))[j]? = some u → (W7.alloc (.cells #[] 2)).cell? ((⟨g, 0, none⟩ : Addr).add j) = some u := fun j u hu => (hFo.alloc (.cells #[] 2)).cells (g := g) rfl j u hu
  have hone : ∀ u ∈ i64s (F o), u.oneCell' = true := by
   intro u hu
   simp only [i64s, List.mem_map] at hu
   obtain ⟨x, _, rfl⟩ := hu
   rfl
  have hn3 : n ≤ 3000 := by omega
  have HA1 := Lib.hid hl1
  have HA2 := Lib.hid hcell
  have HA3 := Lib.hid hone
  clear hl1 hcell hone hfv hFo
  go_wp2_with (at_builtin; refine wpList_append_own _ rfl (.tmp 65) (.tmp 71) 34 rfl W7.heap.size 2 i2 (.int .i64 0) 1 8 Tryz.underlying34 ji jz0 jz1 jz2 rfl (by decide) _ _ _ rfl (World.ownsRow_lit W7 #[] 0 (Nat.le_refl _) (by simp [maxLen]) rfl) ⟨g, 0, none⟩ n cap (i64s (F o)) rfl HA1.out HA2.out HA3.out (by unfold maxLen; omega) (by omega) (by simp) ?_; intro v8 w8 hown hgrow hnil; simp only [List.nil_append, Nat.zero_add] at hown; obtain ⟨to, tc, hto⟩ := own_form hown; subst hto)
  obtain ⟨tb, hto⟩ : ∃ tb, to = some ⟨tb, 0, none⟩ := by
   rcases hown.2 with ⟨a1, a2⟩ | ⟨tb, cap2, cur, a1, _⟩
   ·omega
   ·simp at a1; exact ⟨tb, a1.1⟩
  subst hto
  have b8 : Below W7.heap.size W7 w8 := ((Below.refl _ _).alloc (Nat.le_refl _) _).grown hgrow (by simp) (fun k e => by have e' : some W7.heap.size = some k := e; cases e'; exact Nat.le_refl _)
  obtain ⟨ht1, ht2⟩ := hown.lt tb rfl
  have htc : ∀ k, k < n → w8.cell? ⟨tb, k, none⟩ = some (.int .i64 ((F o).getD k 0)) := fun k hk => by
   refine (hown.cellAt k (by omega)).trans ?_
   simp [i64s, List.getD_eq_getElem?_getD, List.getElem?_eq_getElem (show k < (F o).length by omega)]
  have htk : ∃ cur, w8.heap[tb]? = some (Obj.cells cur 2 (0, 0)) := (own_block hown).imp fun _ h => h.1
  have HW8 := Lib.hid (And.intro htc (And.intro b8 htk))
  clear hown hgrow hnil b8 htc htk HA1 HA2 HA3
  go_loopw [11] (fun i wr => ∃ k : Nat, k ≤ n ∧ i = .int .i64 (k : Int) ∧ Brd B0 wr bd ag mb 3 sd lb lcap vs c K (fun g => if g = h then mixK (· + ·) (F h) (F o) k else F g) (fun k => if k = h + 1 then stZip c (· + ·) (cs (h + 1)) (cs (o + 1)) else cs k) kv fv ∧ Upd (fun k => B0 ≤ k) w wr ∧ wr.heap[w.heap.size]? = W7.heap[w.heap.size]? ∧ wr.heap[tb]? = w8.heap[tb]? ∧ w8.heap.size ≤ wr.heap.size) (fun i _ => n - (intOf i).toNat)
  case atStart =>
   obtain ⟨S7, kU7, x7, hnn⟩ := HF.out
   obtain ⟨htc, b8, htk⟩ := HW8.out
   refine ⟨0, by omega, rfl, (S7.below b8).congr (fun g g3 => ?_), kU7.trans (Upd.of_below b8), b8.block _ (lt_of_block x7), rfl, Nat.le_refl _⟩
   by_cases e : g = h
   ·subst e; simp [mixK_zero]
   ·simp [e]
  case round =>
   obtain ⟨k, hk, rfl, Sr, kU, hbx, htb, hsz⟩ := hrel
   obtain ⟨S7, kU7, x7, hnn⟩ := HF.out
   obtain ⟨htc, b8, htk⟩ := HW8.out
   by_cases hlt : k < n
   ·have hkK : k < K.length := by omega
    obtain ⟨gh, ch, hvh, hch⟩ := Sr.r.val hh3 hkK
    simp only [if_true] at hch
    rw [mixK_at _ _ _ _ (by omega) (by omega)] at hch
    have yh := Sr.r.cellF hh3
    rw [hvh] at yh
    have xr := hbx.trans x7
    have p0 := cell_of_heap xr 0 _ rfl
    obtain ⟨tcur, htkk⟩ := htk
    have ct : wr.cell? ⟨tb, k, none⟩ = some (.int .i64 ((F o).getD k 0)) := (World.cell?_of_block htb).trans (htc k hlt)
    have lr := lt_of_block Sr.r.hd
    have lgh := ((Sr.r.fr h hh3).lt gh (by rw [hvh]; rfl)).2
    have lgh7 := ((S7.r.fr h hh3).lt gh (by rw [hvh]; rfl)).2
    have b1 := (A.fb h hh3).getD (by omega) k
    have b2 := (A.fb o ho3).getD (by omega) k
    have hset := mixK_set (· + ·) (F h) (F o) k (by omega) (by omega)
    obtain ⟨x, hx⟩ : ∃ x, (F h).getD k 0 = x := ⟨_, rfl⟩
    obtain ⟨y, hy⟩ : ∃ y, (F o).getD k 0 = y := ⟨_, rfl⟩
    rw [hx] at hch b1 hset
    rw [hy] at ct b2 hset
    rw [hnn] at yh
    have HR := Lib.hid (And.intro Sr (And.intro kU (And.intro hbx (And.intro htb (And.intro hvh (And.intro hkK hset))))))
    have ltb : tb < wr.heap.size := by omega
    clear Sr kU hbx htb hvh hset hx hy S7 kU7 x7 htc b8 xr htkk hnn
    go_wp2_with fail
    refine wp_region_mixA wr.heap.size [0, 1, 2, 3, 4, 5, 6, 7, 8, 9, 10, 11, 12, 13, 14, 15, 16, 17, 18, 19, 20] [21, 22] (by kernel_rfl) (by kernel_rfl) rfl ?_
    simp only [opsAt, List.map_cons, List.map_nil, List.getElem?_toArray, List.getElem?_cons_zero, List.getElem?_cons_succ, Option.getD_some]
    have za := fun k : After wr.heap.size wr => k.cell lr yh
    have zb := fun k : After wr.heap.size wr => k.cell lgh hch
    have zc := fun k : After wr.heap.size wr => k.cell ltb ct
    repeat (go_big_quiet_step (fail))
    refine wpQuiet_nil ?_
    intro kk
    unfold calmQ
    have kb := kk.h
    clear za zb zc
    obtain ⟨W9, hw1⟩ : ∃ W9, kk.w = W9 := ⟨_, rfl⟩
    rw [hw1] at kb
    rw [hw1]
    clear hw1
    have S9 := HR.out.1.below kb
    have kU9 := HR.out.2.1.trans (Upd.of_below kb)
    obtain ⟨P9, u9⟩ := S9.r.put hh3 HR.out.2.2.2.2.2.1 HR.out.2.2.2.2.1 (x + y)
    have S10 := S9.rows P9 u9 (fun b hb => .inl hb)
    have kU10 := kU9.trans (u9.mono (fun k hk => S9.r.blo k hk))
    have fz : W9.frozen? ⟨gh, k, none⟩ = false := by
     obtain ⟨cur, hc⟩ := S9.r.r.fk hh3 (show (fv h).ownBlock = some gh by rw [HR.out.2.2.2.2.1]; rfl)
     simp [World.frozen?, hc]
    have yv := (kb.cell (p := ⟨gh, k, none⟩) lgh).trans hch
    have l9 : gh < W9.heap.size := Nat.lt_of_lt_of_le lgh kb.size
    have z9 := kb.size
    have x9 : (W9.setCell ⟨gh, k, none⟩ (.int .i64 (x + y))).heap[w.heap.size]? = W7.heap[w.heap.size]? := by
     refine (heap_setCell_other _ _ _ _ (fun e => ?_)).trans ((kb.block _ (by omega)).trans HR.out.2.2.1)
     obtain ⟨cur, hc⟩ := HF.out.1.r.r.fk hh3 (show (fv h).ownBlock = some gh by rw [HR.out.2.2.2.2.1]; rfl)
     exact kind_ne HF.out.2.2.1 hc (by decide) e
    have t9 : (W9.setCell ⟨gh, k, none⟩ (.int .i64 (x + y))).heap[tb]? = w8.heap[tb]? :=
     (heap_setCell_other _ _ _ _ (by dsimp only; omega)).trans ((kb.block _ ltb).trans HR.out.2.2.2.1)
    have HQ := Lib.hid (And.intro S10 (And.intro kU10 (And.intro x9 t9)))
    clear S9 kU9 P9 u9 S10 kU10 x9 t9 hch yh p0
    go_wp2_with fail
    go_roundw
    case rel =>
     refine ⟨k + 1, by omega, by simp, HQ.out.1.congr (fun g g3 => ?_), HQ.out.2.1, HQ.out.2.2.1, HQ.out.2.2.2, by simp; omega⟩
     by_cases e : g = h
     ·subst e
      simp only [if_true]
      exact HR.out.2.2.2.2.2.2
     ·simp only [if_neg e]
    case measure => simp [intOf]; omega
   ·obtain rfl : k = n := by omega
    have S10 : Brd B0 wr bd ag mb 3 sd lb lcap vs c K (pairF (· + ·) F h o) (pairC c (· + ·) cs h o) kv fv := by
     refine Sr.congr (fun g g3 => ?_)
     unfold pairF
     by_cases e : g = h
     ·subst e; simp only [if_true]; exact mixK_all _ _ _ _ (by omega) (by omega)
     ·simp only [if_neg e]
    have HQ := Lib.hid (And.intro S10 kU)
    clear S10 Sr kU hbx htb S7 kU7 x7 htc b8 htk
    go_wp2_with fail
    go_ret
    exact ⟨by first | rfl | simp [sOf_toList], ⟨kv, fv, HQ.out.1⟩, HQ.out.2⟩
theorem does_minus (S : Brd B0 w bd ag mb 3 sd lb lcap vs c K F cs kv fv) (R : c.Ok) (M : Int) (N : Nat) (A : AbOk c M N K F cs) (hM : 1048576 ≤ M) (hM2 : M ≤ 562949953421312) (hN : N ≤ 3000) (hm : c.m ≠ 2) (H O D : Int) (key : Nat) :
  Calls Tryz.prog 38 #[.pointer (some ⟨bd, 0, none⟩), .agg #[.int .i64 4, .int .i64 H, .int .i64 O, .int .u64 (key : Int), .int .i64 D]] w fun e w' => e = .returned (.bool true) ∧ (∃ kv' fv', Brd B0 w' bd ag mb 3 sd lb lcap vs c K (pairF (· - ·) F (handN H) (handN O)) (pairC c (· - ·) cs (handN H) (handN O)) kv' fv') ∧ Upd (fun k => B0 ≤ k) w w' := by
 have kb : Below w.heap.size w (w.alloc (.cells #[.int .i64 4, .int .i64 H, .int .i64 O, .int .u64 (key : Int), .int .i64 D] 84)) := (Below.refl _ _).alloc (Nat.le_refl _) _
 have x0 : (w.alloc (.cells #[.int .i64 4, .int .i64 H, .int .i64 O, .int .u64 (key : Int), .int .i64 D] 84)).heap[w.heap.size]? = some (Obj.cells #[.int .i64 4, .int .i64 H, .int .i64 O, .int .u64 (key : Int), .int .i64 D] 84 (0, 0)) := heap_alloc_at _ rfl
 have S1 := S.below kb
 obtain ⟨W, hW⟩ : ∃ W, w.alloc (.cells #[.int .i64 4, .int .i64 H, .int .i64 O, .int .u64 (key : Int), .int .i64 D] 84) = W := ⟨_, rfl⟩
 rw [hW] at kb x0 S1
 have lx := lt_of_block x0
 have q0 := cell_of_heap x0 0 _ rfl
 have q1 := cell_of_heap x0 1 _ rfl
 have q2 := cell_of_heap x0 2 _ rfl
 have q3 := cell_of_heap x0 3 _ rfl
 have q4 := cell_of_heap x0 4 _ rfl
 have HH := Lib.hid fun (a : Int) (w : World) => ghandle_any a w
 have hh3 := handN_lt H
 have ho3 := handN_lt O
 have ehH := handN_int H
 have ehO := handN_int O
 obtain ⟨h, hh⟩ : ∃ h, handN H = h := ⟨_, rfl⟩
 obtain ⟨o, ho⟩ : ∃ o, handN O = o := ⟨_, rfl⟩
 try rw [hh, ho]
 rw [hh] at hh3 ehH
 rw [ho] at ho3 ehO
 have EH := Lib.hid ehH
 have EO := Lib.hid ehO
 have ya := fun k : After W.heap.size W => k.cell (b := bd) (o := 0) (lt_of_block S1.r.hd) (cell_of_heap S1.r.hd 0 _ rfl)
 have HT1 := Lib.hid fun w => gtext_any ((h : Int) + 1) (by omega) (by omega) w
 have HT2 := Lib.hid fun w => gtext_any ((o : Int) + 1) (by omega) (by omega) w
 have s1 := text_size ((h : Int) + 1) (by omega) (by omega)
 have s2 := text_size ((o : Int) + 1) (by omega) (by omega)
 obtain ⟨R1, hR1⟩ : ∃ R1, sOf (Lib.itoa ((h : Int) + 1)) = R1 := ⟨_, rfl⟩
 obtain ⟨R2, hR2⟩ : ∃ R2, sOf (Lib.itoa ((o : Int) + 1)) = R2 := ⟨_, rfl⟩
 rw [hR1] at HT1 s1
 rw [hR2] at HT2 s2
 have hcat := ln_cat2 [115, 117, 98, 116, 114, 97, 99, 116] ⟨#[115, 117, 98, 116, 114, 97, 99, 116, 32]⟩ R1 R2 ((h : Int) + 1) ((o : Int) + 1) rfl hR1.symm hR2.symm
 have HC := Lib.hid hcat
 have HS := Lib.hid (And.intro S1 (And.intro kb x0))
 clear hh ho S S1 x0 ehH ehO hR1 hR2 hcat kb
 go_enter Tryz.func38, Tryz.ntmps38
 go_wp2_with fail
 refine (HH.out H _).mono ?_
 rintro e w1 ⟨rfl, rfl⟩
 rw [← EH.out]
 go_wp2_with fail
 refine (HH.out O _).mono ?_
 rintro e w1 ⟨rfl, rfl⟩
 rw [← EO.out]
 go_wp2_with fail
 refine wp_region_mixA w1.heap.size [0, 1, 2, 3, 4, 5, 6, 7, 8, 9, 10, 11, 12, 13] [14, 15, 16, 17, 18, 19] (by kernel_rfl) (by kernel_rfl) rfl ?_
 simp only [opsAt, List.map_cons, List.map_nil, List.getElem?_toArray, List.getElem?_cons_zero, List.getElem?_cons_succ, Option.getD_some]
 repeat (go_big_quiet_step (((go_at_call 14; first | exact after_of (Nat.le_refl _) _ (HT1.out _) | exact after_of (Nat.le_refl _) _ (HT2.out _)))))
 refine wpQuiet_nil ?_
 intro kk
 unfold calmQ
 have kb := kk.h
 obtain ⟨W6, hw1⟩ : ∃ W6, kk.w = W6 := ⟨_, rfl⟩
 rw [hw1] at kb
 rw [hw1]
 clear hw1
 have S6 := HS.out.1.below kb
 have kU6 := (Upd.of_below HS.out.2.1 : Upd (fun k => B0 ≤ k) w w1).trans (Upd.of_below kb)
 have x6 := (kb.block _ lx).trans HS.out.2.2
 have p0 := cell_of_heap x6 0 _ rfl
 clear q0 q1 q2 q3 q4 ya
 have HL := Lib.hid (ln_sub S6.a R (by decide) (h + 1) (o + 1) (by omega) (by omega) (by omega) (by omega) (fun l hl x hx => by have := A.cb h hh3 l hl x hx; omega) (fun l hl x hx => by have := A.cb o ho3 l hl x hx; omega) hm _ HC.out)
 have HS6 := Lib.hid (And.intro S6 (And.intro kU6 x6))
 have l6 := lt_of_block S6.r.hd
 have hm2 : ((c.m : Int) == 2) = false := by simp; omega
 clear S6 kU6 x6 kb p0 hm
 go_wp2_with fail
 refine HL.out.mono ?_
 rintro e W7 ⟨rfl, A7, u7⟩
 have S7 := HS6.out.1.line A7 u7
 have kU7 := HS6.out.2.1.trans (u7.mono (fun k hk => HS6.out.1.flo k hk))
 have x7 := (u7.block _ (lt_of_block HS6.out.2.2) (HS6.out.1.not_foot HS6.out.2.2 (by decide) (by decide))).trans HS6.out.2.2
 have p0 := cell_of_heap x7 0 _ rfl
 have p4 := cell_of_heap S7.r.hd 4 _ rfl
 have yo := S7.r.cellF ho3
 have hFo := S7.r.fr o ho3
 have hlo := A.len o ho3
 have hlh := A.len h hh3
 have hfw := A.few
 obtain ⟨n, hn⟩ : ∃ n, K.length = n := ⟨_, rfl⟩
 rw [hn] at hFo hlo hlh hfw
 have HF := Lib.hid (And.intro S7 (And.intro kU7 (And.intro x7 hn)))
 have l7 := lt_of_block S7.r.hd
 have l7x := lt_of_block x7
 obtain ⟨i2, ji, jz0, jz1, jz2⟩ := info_parts Tryz.info2
 clear S7 kU7 x7 A7 u7 hn HL
 rcases Nat.eq_zero_or_pos n with hn0 | hnp
 ·subst hn0
  have e1 : F h = [] := List.length_eq_zero_iff.1 hlh
  have e2 : F o = [] := List.length_eq_zero_iff.1 hlo
  have key0 : ∀ W : World, Below W7.heap.size W7 W → (∃ kv' fv', Brd B0 W bd ag mb 3 sd lb lcap vs c K (pairF (· - ·) F h o) (pairC c (· - ·) cs h o) kv' fv') ∧ Upd (fun k => B0 ≤ k) w W := by
   intro W hb
   refine ⟨⟨kv, fv, (HF.out.1.below hb).congr (fun g g3 => ?_)⟩, HF.out.2.1.trans (Upd.of_below hb)⟩
   unfold pairF
   by_cases e : g = h
   ·subst e; simp [e1, e2, zipI]
   ·simp [e]
  have HK0 := Lib.hid key0
  clear key0
  rcases hFo.2 with ⟨a1, _⟩ | ⟨g, cap, cur, a1, _⟩
  ·rw [a1] at yo
   clear a1 hFo
   go_wp2_with fail
   go_loop [11] (fun i => i = .int .i64 0) (fun _ => 0)
   case atStart => rfl
   case round =>
    subst hrel
    go_wp2_with fail
    go_ret
    have kz := HK0.out _ ((Below.refl _ W7).alloc (Nat.le_refl _) (.cells #[] 2))
    exact ⟨by first | rfl | simp [sOf_toList], kz.1, kz.2⟩
  ·rw [a1] at yo
   clear a1 hFo
   go_wp2_with fail
   go_loop [11] (fun i => i = .int .i64 0) (fun _ => 0)
   case atStart => rfl
   case round =>
    subst hrel
    go_wp2_with fail
    go_ret
    have kz := HK0.out _ ((Below.refl _ W7).alloc (Nat.le_refl _) (.cells #[] 2))
    exact ⟨by first | rfl | simp [sOf_toList], kz.1, kz.2⟩
 ·obtain ⟨g, cap, hfv⟩ : ∃ g cap, fv o = .slice (some ⟨g, 0, none⟩) n cap := by
   rcases hFo.2 with ⟨a1, a2⟩ | ⟨g, cap, cur, a1, _⟩
   ·omega
   ·exact ⟨g, cap, a1⟩
  rw [hfv] at yo hFo
  have hl1 : (i64s (F o)).length = n * 1 := by simp [i64s, hlo]
  have hcell : ∀ j u, (i64s (F o))[j]? = some u → (W7.alloc (.cells #[] 2)).cell? ((⟨g, 0, none⟩ : Addr).add j) = some u := fun j u hu => (hFo.alloc (.cells #[] 2)).cells (g := g) rfl j u hu
  have hone : ∀ u ∈ i64s (F o), u.oneCell' = true := by
   intro u hu
   simp only [i64s, List.mem_map] at hu
   obtain ⟨x, _, rfl⟩ := hu
   rfl
  have hn3 : n ≤ 3000 := by omega
  have HA1 := Lib.hid hl1
  have HA2 := Lib.hid hcell
  have HA3 := Lib.hid hone
  clear hl1 hcell hone hfv hFo
  go_wp2_with (at_builtin; refine wpList_append_own _ rfl (.tmp 65) (.tmp 71) 34 rfl W7.heap.size 2 i2 (.int .i64 0) 1 8 Tryz.underlying34 ji jz0 jz1 jz2 rfl (by decide) _ _ _ rfl (World.ownsRow_lit W7 #[] 0 (Nat.le_refl _) (by simp [maxLen]) rfl) ⟨g, 0, none⟩ n cap (i64s (F o)) rfl HA1.out HA2.out HA3.out (by unfold maxLen; omega) (by omega) (by simp) ?_; intro v8 w8 hown hgrow hnil; simp only [List.nil_append, Nat.zero_add] at hown; obtain ⟨to, tc, hto⟩ := own_form hown; subst hto)
  obtain ⟨tb, hto⟩ : ∃ tb, to = some ⟨tb, 0, none⟩ := by
   rcases hown.2 with ⟨a1, a2⟩ | ⟨tb, cap2, cur, a1, _⟩
   ·omega
   ·simp at a1; exact ⟨tb, a1.1⟩
  subst hto
  have b8 : Below W7.heap.size W7 w8 := ((Below.refl _ _).alloc (Nat.le_refl _) _).grown hgrow (by simp) (fun k e => by have e' : some W7.heap.size = some k := e; cases e'; exact Nat.le_refl _)
  obtain ⟨ht1, ht2⟩ := hown.lt tb rfl
  have htc : ∀ k, k < n → w8.cell? ⟨tb, k, none⟩ = some (.int .i64 ((F o).getD k 0)) := fun k hk => by
   refine (hown.cellAt k (by omega)).trans ?_
   simp [i64s, List.getD_eq_getElem?_getD, List.getElem?_eq_getElem (show k < (F o).length by omega)]
  have htk : ∃ cur, w8.heap[tb]? = some (Obj.cells cur 2 (0, 0)) := (own_block hown).imp fun _ h => h.1
  have HW8 := Lib.hid (And.intro htc (And.intro b8 htk))
  clear hown hgrow hnil b8 htc htk HA1 HA2 HA3
  go_loopw [11] (fun i wr => ∃ k : Nat, k ≤ n ∧ i = .int .i64 (k : Int) ∧ Brd B0 wr bd ag mb 3 sd lb lcap vs c K (fun g => if g = h then mixK (· - ·) (F h) (F o) k else F g) (fun k => if k = h + 1 then stZip c (· - ·) (cs (h + 1)) (cs (o + 1)) else cs k) kv fv ∧ Upd (fun k => B0 ≤ k) w wr ∧ wr.heap[w.heap.size]? = W7.heap[w.heap.size]? ∧ wr.heap[tb]? = w8.heap[tb]? ∧ w8.heap.size ≤ wr.heap.size) (fun i _ => n - (intOf i).toNat)
  case atStart =>
   obtain ⟨S7, kU7, x7, hnn⟩ := HF.out
   obtain ⟨htc, b8, htk⟩ := HW8.out
   refine ⟨0, by omega, rfl, (S7.below b8).congr (fun g g3 => ?_), kU7.trans (Upd.of_below b8), b8.block _ (lt_of_block x7), rfl, Nat.le_refl _⟩
   by_cases e : g = h
   ·subst e; simp [mixK_zero]
   ·simp [e]
  case round =>
   obtain ⟨k, hk, rfl, Sr, kU, hbx, htb, hsz⟩ := hrel
   obtain ⟨S7, kU7, x7, hnn⟩ := HF.out
   obtain ⟨htc, b8, htk⟩ := HW8.out
   by_cases hlt : k < n
   ·have hkK : k < K.length := by omega
    obtain ⟨gh, ch, hvh, hch⟩ := Sr.r.val hh3 hkK
    simp only [if_true] at hch
    rw [mixK_at _ _ _ _ (by omega) (by omega)] at hch
    have yh := Sr.r.cellF hh3
    rw [hvh] at yh
    have xr := hbx.trans x7
    have p0 := cell_of_heap xr 0 _ rfl
    obtain ⟨tcur, htkk⟩ := htk
    have ct : wr.cell? ⟨tb, k, none⟩ = some (.int .i64 ((F o).getD k 0)) := (World.cell?_of_block htb).trans (htc k hlt)
    have lr := lt_of_block Sr.r.hd
    have lgh := ((Sr.r.fr h hh3).lt gh (by rw [hvh]; rfl)).2
    have lgh7 := ((S7.r.fr h hh3).lt gh (by rw [hvh]; rfl)).2
    have b1 := (A.fb h hh3).getD (by omega) k
    have b2 := (A.fb o ho3).getD (by omega) k
    have hset := mixK_set (· - ·) (F h) (F o) k (by omega) (by omega)
    obtain ⟨x, hx⟩ : ∃ x, (F h).getD k 0 = x := ⟨_, rfl⟩
    obtain ⟨y, hy⟩ : ∃ y, (F o).getD k 0 = y := ⟨_, rfl⟩
    rw [hx] at hch b1 hset
    rw [hy] at ct b2 hset
    rw [hnn] at yh
    have HR := Lib.hid (And.intro Sr (And.intro kU (And.intro hbx (And.intro htb (And.intro hvh (And.intro hkK hset))))))
    have ltb : tb < wr.heap.size := by omega
    clear Sr kU hbx htb hvh hset hx hy S7 kU7 x7 htc b8 xr htkk hnn
    go_wp2_with fail
    refine wp_region_mixA wr.heap.size [0, 1, 2, 3, 4, 5, 6, 7, 8, 9, 10, 11, 12, 13, 14, 15, 16, 17, 18, 19, 20] [21, 22] (by kernel_rfl) (by kernel_rfl) rfl ?_
    simp only [opsAt, List.map_cons, List.map_nil, List.getElem?_toArray, List.getElem?_cons_zero, List.getElem?_cons_succ, Option.getD_some]
    have za := fun k : After wr.heap.size wr => k.cell lr yh
    have zb := fun k : After wr.heap.size wr => k.cell lgh hch
    have zc := fun k : After wr.heap.size wr => k.cell ltb ct
    repeat (go_big_quiet_step (fail))
    refine wpQuiet_nil ?_
    intro kk
    unfold calmQ
    have kb := kk.h
    clear za zb zc
    obtain ⟨W9, hw1⟩ : ∃ W9, kk.w = W9 := ⟨_, rfl⟩
    rw [hw1] at kb
    rw [hw1]
    clear hw1
    have S9 := HR.out.1.below kb
    have kU9 := HR.out.2.1.trans (Upd.of_below kb)
    obtain ⟨P9, u9⟩ := S9.r.put hh3 HR.out.2.2.2.2.2.1 HR.out.2.2.2.2.1 (x - y)
    have S10 := S9.rows P9 u9 (fun b hb => .inl hb)
    have kU10 := kU9.trans (u9.mono (fun k hk => S9.r.blo k hk))
    have fz : W9.frozen? ⟨gh, k, none⟩ = false := by
     obtain ⟨cur, hc⟩ := S9.r.r.fk hh3 (show (fv h).ownBlock = some gh by rw [HR.out.2.2.2.2.1]; rfl)
     simp [World.frozen?, hc]
    have yv := (kb.cell (p := ⟨gh, k, none⟩) lgh).trans hch
    have l9 : gh < W9.heap.size := Nat.lt_of_lt_of_le lgh kb.size
    have z9 := kb.size
    have x9 : (W9.setCell ⟨gh, k, none⟩ (.int .i64 (x - y))).heap[w.heap.size]? = W7.heap[w.heap.size]? := by
     refine (heap_setCell_other _ _ _ _ (fun e => ?_)).trans ((kb.block _ (by omega)).trans HR.out.2.2.1)
     obtain ⟨cur, hc⟩ := HF.out.1.r.r.fk hh3 (show (fv h).ownBlock = some gh by rw [HR.out.2.2.2.2.1]; rfl)
     exact kind_ne HF.out.2.2.1 hc (by decide) e
    have t9 : (W9.setCell ⟨gh, k, none⟩ (.int .i64 (x - y))).heap[tb]? = w8.heap[tb]? :=
     (heap_setCell_other _ _ _ _ (by dsimp only; omega)).trans ((kb.block _ ltb).trans HR.out.2.2.2.1)
    have HQ := Lib.hid (And.intro S10 (And.intro kU10 (And.intro x9 t9)))
    clear S9 kU9 P9 u9 S10 kU10 x9 t9 hch yh p0
    go_wp2_with fail
    go_roundw
    case rel =>
     refine ⟨k + 1, by omega, by simp, HQ.out.1.congr (fun g g3 => ?_), HQ.out.2.1, HQ.out.2.2.1, HQ.out.2.2.2, by simp; omega⟩
     by_cases e : g = h
     ·subst e
      simp only [if_true]
      exact HR.out.2.2.2.2.2.2
     ·simp only [if_neg e]
    case measure => simp [intOf]; omega
   ·obtain rfl : k = n := by omega
    have S10 : Brd B0 wr bd ag mb 3 sd lb lcap vs c K (pairF (· - ·) F h o) (pairC c (· - ·) cs h o) kv fv := by
     refine Sr.congr (fun g g3 => ?_)
     unfold pairF
     by_cases e : g = h
     ·subst e; simp only [if_true]; exact mixK_all _ _ _ _ (by omega) (by omega)
     ·simp only [if_neg e]
    have HQ := Lib.hid (And.intro S10 kU)
    clear S10 Sr kU hbx htb S7 kU7 x7 htc b8 htk
    go_wp2_with fail
    go_ret
    exact ⟨by first | rfl | simp [sOf_toList], ⟨kv, fv, HQ.out.1⟩, HQ.out.2⟩
end Go.Proofs.YtbhppbeepmllaaaGreatDoor

namespace Go.Proofs.YtbhppbeepmllaaaGreatDoor
open Go.RowKit

theorem ln_cat5 (v : List UInt8) (V R1 R2 R3 R4 R5 : ByteArray) (a b d e g : Int) (hV : V.data.toList = v ++ [32]) (h1 : R1 = sOf (Lib.itoa a)) (h2 : R2 = sOf (Lib.itoa b)) (h3 : R3 = sOf (Lib.itoa d)) (h4 : R4 = sOf (Lib.itoa e)) (h5 : R5 = sOf (Lib.itoa g)) :
  (V ++ R1 ++ ⟨#[32]⟩ ++ R2 ++ ⟨#[32]⟩ ++ R3 ++ ⟨#[32]⟩ ++ R4 ++ ⟨#[32]⟩ ++ R5).data.toList = lnB v [a, b, d, e, g] := by
 subst h1; subst h2; subst h3; subst h4; subst h5
 simp only [app_list, hV, sOf_list, lnB, List.flatMap_cons, List.flatMap_nil]
 simp
theorem seed_wrap (s : Nat) (hs : s < 18446744073709551616) : (-9223372036854775808 ≤ wrap64 (s : Int) ∧ wrap64 (s : Int) ≤ 9223372036854775807) ∧ IntKind.u64.wrap (wrap64 (s : Int)) = s := by
 rw [IntKind.wrap_u64]
 by_cases h : s < 9223372036854775808
 ·have e : wrap64 (s : Int) = s := IntWalk.wrap64_in _ (by omega)
  rw [e]
  exact ⟨by omega, Int.emod_eq_of_lt (by omega) (by omega)⟩
 ·obtain ⟨t, rfl⟩ : ∃ t, s = 9223372036854775808 + t := ⟨s - 9223372036854775808, by omega⟩
  have ht : t < 9223372036854775808 := by omega
  have e : wrap64 ((9223372036854775808 + t : Nat) : Int) = (t : Int) - 9223372036854775808 := by
   unfold wrap64
   rw [show ((9223372036854775808 + t : Nat) : Int) + 9223372036854775808 = (t : Int) + 18446744073709551616 by omega, Int.add_emod_right, Int.emod_eq_of_lt (by omega) (by omega)]
  rw [e]
  refine ⟨by omega, ?_⟩
  rw [show (t : Int) - 9223372036854775808 = ((9223372036854775808 + t : Nat) : Int) - 18446744073709551616 by omega, Int.sub_emod_right, Int.emod_eq_of_lt (by omega) (by omega)]
def BroadNew (c : Cfg) (w : World) (bd : Nat) (w' : World) : Prop := ∃ (ag mb : Nat) (sd lb lcap : Nat → Nat) (vs : Nat → Nat → Lv) (cs : Nat → Nat → List Int) (kv : Value) (fv : Nat → Value),
 Brd w.heap.size w' bd ag mb 3 sd lb lcap vs c [] (fun _ => []) cs kv fv ∧ (∀ h, h < 3 → cs (h + 1) = zeroC c) ∧ Below w.heap.size w w'
theorem gbroad_any (c : Cfg) (R : c.Ok) (hs : c.s < 18446744073709551616) (m0 : Int) (w : World) (ht : Tab w) :
  Calls Tryz.prog 36 #[.agg #[.int .i64 c.b, .int .i64 c.r, .int .i64 c.wd, .int .i64 m0, .int .u64 c.s], .int .i64 c.m] w fun e w' => ∃ bd, e = .returned (.pointer (some ⟨bd, 0, none⟩)) ∧ BroadNew c w bd w' := by
 have hb1 := R.b1; have hb2 := R.b2; have hr1 := R.r1; have hr2 := R.r2; have hw1 := R.w1; have hw2 := R.w2; have hm1 := R.m1; have hm2 := R.m2
 have x0 : (w.alloc (.cells #[.int .i64 c.b, .int .i64 c.r, .int .i64 c.wd, .int .i64 m0, .int .u64 c.s] 24)).heap[w.heap.size]? = some (Obj.cells #[.int .i64 c.b, .int .i64 c.r, .int .i64 c.wd, .int .i64 m0, .int .u64 c.s] 24 (0, 0)) := heap_alloc_at _ rfl
 have x1 : ((w.alloc (.cells #[.int .i64 c.b, .int .i64 c.r, .int .i64 c.wd, .int .i64 m0, .int .u64 c.s] 24)).setCell ⟨w.heap.size, 3, none⟩ (.int .i64 c.m)).heap[w.heap.size]? = some (Obj.cells #[.int .i64 c.b, .int .i64 c.r, .int .i64 c.wd, .int .i64 c.m, .int .u64 c.s] 24 (0, 0)) := heap_setCell_same _ _ 3 _ _ (.int .i64 c.m) x0
 have kb : Below w.heap.size w ((w.alloc (.cells #[.int .i64 c.b, .int .i64 c.r, .int .i64 c.wd, .int .i64 m0, .int .u64 c.s] 24)).setCell ⟨w.heap.size, 3, none⟩ (.int .i64 c.m)) := ((Below.refl _ _).alloc (Nat.le_refl _) _).setCell (by simp) _
 have q3 := cell_of_heap x0 3 _ rfl
 obtain ⟨W, hW⟩ : ∃ W, ((w.alloc (.cells #[.int .i64 c.b, .int .i64 c.r, .int .i64 c.wd, .int .i64 m0, .int .u64 c.s] 24)).setCell ⟨w.heap.size, 3, none⟩ (.int .i64 c.m)) = W := ⟨_, rfl⟩
 rw [hW] at x1 kb
 have lx := lt_of_block x1
 have q0' := cell_of_heap x1 0 _ rfl
 have q1' := cell_of_heap x1 1 _ rfl
 have q2' := cell_of_heap x1 2 _ rfl
 have q3' := cell_of_heap x1 3 _ rfl
 have q4' := cell_of_heap x1 4 _ rfl
 have HX := Lib.hid (And.intro x1 kb)
 clear x0 x1
 go_enter Tryz.func36, Tryz.ntmps36
 go_wp2_with fail
 clear hW q3
 have hdr : W.drew.cell? ⟨w.heap.size, 0, none⟩ = some (.int .i64 c.b) ∧ W.drew.cell? ⟨w.heap.size, 1, none⟩ = some (.int .i64 c.r) ∧ W.drew.cell? ⟨w.heap.size, 2, none⟩ = some (.int .i64 c.wd) ∧ W.drew.cell? ⟨w.heap.size, 3, none⟩ = some (.int .i64 c.m) ∧ W.drew.cell? ⟨w.heap.size, 4, none⟩ = some (.int .u64 c.s) := ⟨q0', q1', q2', q3', q4'⟩
 refine wp_region_T (fun k X => k = 0 ∨ k = 3 → (X.cell? ⟨w.heap.size, 0, none⟩ = some (.int .i64 c.b) ∧ X.cell? ⟨w.heap.size, 1, none⟩ = some (.int .i64 c.r) ∧ X.cell? ⟨w.heap.size, 2, none⟩ = some (.int .i64 c.wd) ∧ X.cell? ⟨w.heap.size, 3, none⟩ = some (.int .i64 c.m) ∧ X.cell? ⟨w.heap.size, 4, none⟩ = some (.int .u64 c.s))) (by kernel_rfl) ?_
 refine wpAnyT_take2 [0, 3] (i := 1) (v := .agg #[.int .i64 c.b, .int .i64 c.r, .int .i64 c.wd, .int .i64 c.m, .int .u64 c.s]) (S := fun X => (X.cell? ⟨w.heap.size, 0, none⟩ = some (.int .i64 c.b) ∧ X.cell? ⟨w.heap.size, 1, none⟩ = some (.int .i64 c.r) ∧ X.cell? ⟨w.heap.size, 2, none⟩ = some (.int .i64 c.wd) ∧ X.cell? ⟨w.heap.size, 3, none⟩ = some (.int .i64 c.m) ∧ X.cell? ⟨w.heap.size, 4, none⟩ = some (.int .u64 c.s))) rfl (by kernel_rfl) (by kernel_rfl) (by kernel_rfl) (by kernel_rfl) (fun c a w h => (calm_panic _ c _ w h).elim) (fun k hk X h => h (by simpa using hk)) (fun X h _ => h) (.inl ⟨by rfl, fun X hX => by obtain ⟨h0, h1, h2, h3, h4⟩ := hX; go_simp⟩) hdr ?_
 refine wpAnyT_one (i := 0) (by kernel_rfl) rfl (fun K2 hK2 => ?_)
 go_simp
 refine (new_any _).mono ?_
 rintro e w2 ⟨rfl, A2, b2⟩
 have hc2 : w2.cell? ⟨w.heap.size, 0, none⟩ = some (.int .i64 c.b) ∧ w2.cell? ⟨w.heap.size, 1, none⟩ = some (.int .i64 c.r) ∧ w2.cell? ⟨w.heap.size, 2, none⟩ = some (.int .i64 c.wd) ∧ w2.cell? ⟨w.heap.size, 3, none⟩ = some (.int .i64 c.m) ∧ w2.cell? ⟨w.heap.size, 4, none⟩ = some (.int .u64 c.s) := ⟨(b2.cell (p := ⟨w.heap.size, 0, none⟩) lx).trans hdr.1, (b2.cell (p := ⟨w.heap.size, 1, none⟩) lx).trans hdr.2.1, (b2.cell (p := ⟨w.heap.size, 2, none⟩) lx).trans hdr.2.2.1, (b2.cell (p := ⟨w.heap.size, 3, none⟩) lx).trans hdr.2.2.2.1, (b2.cell (p := ⟨w.heap.size, 4, none⟩) lx).trans hdr.2.2.2.2⟩
 refine hK2.out _ _ (fun _ => hc2) ?_
 refine wpAnyT_one (i := 2) (by kernel_rfl) rfl (fun K3 hK3 => ?_)
 go_simp
 refine hK3.out _ _ (fun h => absurd h (by decide)) ?_
 refine wpAnyT_one (i := 3) (by kernel_rfl) rfl (fun K4 hK4 => ?_)
 go_simp
 refine hK4.out _ _ (fun _ => ⟨heapcell_alloc _ hc2.1, heapcell_alloc _ hc2.2.1, heapcell_alloc _ hc2.2.2.1, heapcell_alloc _ hc2.2.2.2.1, heapcell_alloc _ hc2.2.2.2.2⟩) ?_
 refine wpAnyT_walk [4] _ _ _ (by intro k hk X h; simp at hk; omega) (by kernel_rfl) ?_
 simp only [opsAt, List.map_cons, List.map_nil, List.getElem?_toArray, List.getElem?_cons_zero, List.getElem?_cons_succ, Option.getD_some]
 unfold calmQ
 clear hK2 K2 hK3 K3 hK4 K4 hdr hc2 q0' q1' q2' q3' q4'
 go_wp2_with fail
 replace b2 := below_drew_left b2
 have x2 := (b2.block _ lx).trans HX.out.1
 have k3 : Below w2.heap.size w2 (w2.alloc (.cells #[.pointer (some ⟨W.heap.size + 1, 0, none⟩), .int .i64 c.b, .int .i64 c.r, .int .i64 c.wd, .int .i64 c.m, .int .u64 c.s, .slice none 0 0, .slice none 0 0, .slice none 0 0, .slice none 0 0] 37)) := (Below.refl _ _).alloc (Nat.le_refl _) _
 have kw2 := HX.out.2.trans (b2.mono HX.out.2.size)
 have kw3 := kw2.trans (k3.mono kw2.size)
 have x3 := (k3.block _ (lt_of_block x2)).trans x2
 have y3 : (w2.alloc (.cells #[.pointer (some ⟨W.heap.size + 1, 0, none⟩), .int .i64 c.b, .int .i64 c.r, .int .i64 c.wd, .int .i64 c.m, .int .u64 c.s, .slice none 0 0, .slice none 0 0, .slice none 0 0, .slice none 0 0] 37)).heap[w2.heap.size]? = some (Obj.cells #[.pointer (some ⟨W.heap.size + 1, 0, none⟩), .int .i64 c.b, .int .i64 c.r, .int .i64 c.wd, .int .i64 c.m, .int .u64 c.s, .slice none 0 0, .slice none 0 0, .slice none 0 0, .slice none 0 0] 37 (0, 0)) := heap_alloc_at _ rfl
 have A3 := A2.below k3
 have sz2 := b2.size
 have lag : W.heap.size + 1 < w2.heap.size := lt_of_block A2.hd
 have lmb : W.heap.size < w2.heap.size := A2.map.lt
 have htw := ht.lt
 have AG0 : Ag (fun k => w.heap.size < k ∧ k ≠ w2.heap.size) (w2.alloc (.cells #[.pointer (some ⟨W.heap.size + 1, 0, none⟩), .int .i64 c.b, .int .i64 c.r, .int .i64 c.wd, .int .i64 c.m, .int .u64 c.s, .slice none 0 0, .slice none 0 0, .slice none 0 0, .slice none 0 0] 37)) (W.heap.size + 1) W.heap.size 0 (fun _ => 0) (fun _ => 0) (fun _ => 0) (fun _ _ => ⟨0, 0, 0, 0⟩) c (fun _ _ => []) :=
  ⟨A3, ht.below kw3 htw, fun h h1 h2 => by omega, fun h k h1 h2 => by omega, ⟨by omega, by omega⟩, ⟨by omega, by omega⟩, fun h h1 h2 => by omega, fun h => by omega⟩
 have lbd : w.heap.size ≤ w2.heap.size := kw2.size
 obtain ⟨W3, hW3⟩ : ∃ W3, w2.alloc (.cells #[.pointer (some ⟨W.heap.size + 1, 0, none⟩), .int .i64 c.b, .int .i64 c.r, .int .i64 c.wd, .int .i64 c.m, .int .u64 c.s, .slice none 0 0, .slice none 0 0, .slice none 0 0, .slice none 0 0] 37) = W3 := ⟨_, rfl⟩
 rw [hW3] at AG0 y3 x3 kw3 ⊢
 obtain ⟨bd, hbd⟩ : ∃ bd, w2.heap.size = bd := ⟨_, rfl⟩
 obtain ⟨ag, hag⟩ : ∃ ag, W.heap.size + 1 = ag := ⟨_, rfl⟩
 obtain ⟨mb, hmb⟩ : ∃ mb, W.heap.size = mb := ⟨_, rfl⟩
 rw [hbd, hag, hmb] at AG0
 rw [hbd] at y3 lbd ⊢
 rw [hag] at y3 ⊢
 clear hW3 hbd hag hmb A3 k3 A2 x2 b2 kw2 sz2 lag lmb kb HX lx
 obtain ⟨hs1, hs2⟩ := seed_wrap c.s hs
 obtain ⟨sd64, hsd64⟩ : ∃ s, wrap64 (c.s : Int) = s := ⟨_, rfl⟩
 rw [hsd64] at hs1 hs2
 have HS2 := Lib.hid hs2
 obtain ⟨hs1a, hs1b⟩ := hs1
 clear hs2
 go_loopw [6] (fun i wr => ∃ (j : Nat) (sd lb lcap : Nat → Nat) (vs : Nat → Nat → Lv) (cs : Nat → Nat → List Int), j ≤ 3 ∧ i = .int .i64 ((j : Int) + 1) ∧ Ag (fun k => w.heap.size < k ∧ k ≠ bd) wr ag mb j sd lb lcap vs c cs ∧ (∀ h, h < j → cs (h + 1) = zeroC c) ∧ wr.heap[bd]? = W3.heap[bd]? ∧ wr.heap[w.heap.size]? = some (Obj.cells #[.int .i64 c.b, .int .i64 c.r, .int .i64 c.wd, .int .i64 c.m, .int .u64 c.s] 24 (0, 0)) ∧ Below w.heap.size w wr) (fun i _ => 4 - (intOf i).toNat)
 case atStart => exact ⟨0, _, _, _, _, _, by omega, rfl, AG0, fun h hh => by omega, rfl, x3, kw3⟩
 case round =>
  obtain ⟨j, sd, lb, lcap, vs, cs, hj, rfl, A, hz, hbd, hbx, hB⟩ := hrel
  by_cases hj3 : j < 3
  ·have e1 : decide (((j : Int) + 1) ≤ 3) = true := by simp; omega
   have HT1 := Lib.hid fun w => gtext_any (c.b : Int) (by omega) (by omega) w
   have s1 := text_size (c.b : Int) (by omega) (by omega)
   obtain ⟨R1, hR1⟩ : ∃ R1, sOf (Lib.itoa (c.b : Int)) = R1 := ⟨_, rfl⟩
   rw [hR1] at HT1 s1
   have HT2 := Lib.hid fun w => gtext_any (c.r : Int) (by omega) (by omega) w
   have s2 := text_size (c.r : Int) (by omega) (by omega)
   obtain ⟨R2, hR2⟩ : ∃ R2, sOf (Lib.itoa (c.r : Int)) = R2 := ⟨_, rfl⟩
   rw [hR2] at HT2 s2
   have HT3 := Lib.hid fun w => gtext_any (c.wd : Int) (by omega) (by omega) w
   have s3 := text_size (c.wd : Int) (by omega) (by omega)
   obtain ⟨R3, hR3⟩ : ∃ R3, sOf (Lib.itoa (c.wd : Int)) = R3 := ⟨_, rfl⟩
   rw [hR3] at HT3 s3
   have HT4 := Lib.hid fun w => gtext_any (c.m : Int) (by omega) (by omega) w
   have s4 := text_size (c.m : Int) (by omega) (by omega)
   obtain ⟨R4, hR4⟩ : ∃ R4, sOf (Lib.itoa (c.m : Int)) = R4 := ⟨_, rfl⟩
   rw [hR4] at HT4 s4
   have HT5 := Lib.hid fun w => gtext_any sd64 (by omega) (by omega) w
   have s5 := text_size sd64 (by omega) (by omega)
   obtain ⟨R5, hR5⟩ : ∃ R5, sOf (Lib.itoa sd64) = R5 := ⟨_, rfl⟩
   rw [hR5] at HT5 s5
   have hcat := ln_cat5 [99, 114, 101, 97, 116, 101] ⟨#[99, 114, 101, 97, 116, 101, 32]⟩ R1 R2 R3 R4 R5 (c.b : Int) (c.r : Int) (c.wd : Int) (c.m : Int) sd64 rfl hR1.symm hR2.symm hR3.symm hR4.symm hR5.symm
   have HC := Lib.hid hcat
   have yr := hbd.trans y3
   have lr := lt_of_block yr
   have lxr := lt_of_block hbx
   have ya := cell_of_heap yr 0 _ rfl
   have yx0 := cell_of_heap hbx 0 _ rfl
   have yx1 := cell_of_heap hbx 1 _ rfl
   have yx2 := cell_of_heap hbx 2 _ rfl
   have yx3 := cell_of_heap hbx 3 _ rfl
   have yx4 := cell_of_heap hbx 4 _ rfl
   have HB := Lib.hid (And.intro A (And.intro hz (And.intro hbd (And.intro hbx hB))))
   clear A hz hbd hbx hB yr hR1 hR2 hR3 hR4 hR5 hcat
   go_wp2_with fail
   refine wp_region_mixA wr.heap.size [0, 1, 2, 3, 4, 5, 6, 7, 8, 9, 10, 11, 12, 13, 14, 15, 16, 17, 18, 19, 20, 21, 22, 23, 24, 25, 26, 27, 28] [29, 30, 31, 32, 33, 34] (by kernel_rfl) (by kernel_rfl) rfl ?_
   simp only [opsAt, List.map_cons, List.map_nil, List.getElem?_toArray, List.getElem?_cons_zero, List.getElem?_cons_succ, Option.getD_some]
   have za := fun k : After wr.heap.size wr => k.cell lr ya
   have z0 := fun k : After wr.heap.size wr => k.cell lxr yx0
   have z1 := fun k : After wr.heap.size wr => k.cell lxr yx1
   have z2 := fun k : After wr.heap.size wr => k.cell lxr yx2
   have z3 := fun k : After wr.heap.size wr => k.cell lxr yx3
   have z4 := fun k : After wr.heap.size wr => k.cell lxr yx4
   repeat (go_big_quiet_step (((go_at_call 14; first | exact after_of (Nat.le_refl _) _ (HT1.out _) | exact after_of (Nat.le_refl _) _ (HT2.out _) | exact after_of (Nat.le_refl _) _ (HT3.out _) | exact after_of (Nat.le_refl _) _ (HT4.out _) | exact after_of (Nat.le_refl _) _ (HT5.out _)))))
   refine wpQuiet_nil ?_
   intro kk
   unfold calmQ
   have kb := kk.h
   clear za z0 z1 z2 z3 z4
   obtain ⟨W6, hw1⟩ : ∃ W6, kk.w = W6 := ⟨_, rfl⟩
   rw [hw1] at kb
   rw [hw1]
   clear hw1
   obtain ⟨A, hz, hbd, hbx, hB⟩ := HB.out
   have A6 := A.below kb
   have hP6 : ∀ k, W6.heap.size ≤ k → w.heap.size < k ∧ k ≠ bd := fun k hk => by have := kb.size; have := hB.size; exact ⟨by omega, by omega⟩
   have HL := Lib.hid (ln_create A6 R (by omega) hP6 sd64 ⟨hs1a, hs1b⟩ HS2.out _ HC.out)
   have HT := Lib.hid fun w => gtext_any (((j + 1 : Nat) : Int)) (by omega) (by omega) w
   have hcatH : sOf ([104, 97, 110, 100, 108, 101, 32] ++ Lib.itoa ((j + 1 : Nat) : Int)) = (⟨#[104, 97, 110, 100, 108, 101, 32]⟩ : ByteArray) ++ sOf (Lib.itoa ((j + 1 : Nat) : Int)) := (sOf_append _ _).symm
   have hsz6 := text_size (((j + 1 : Nat) : Int)) (by omega) (by omega)
   rw [hcatH] at HL
   obtain ⟨X, hX⟩ : ∃ X, sOf (Lib.itoa ((j + 1 : Nat) : Int)) = X := ⟨_, rfl⟩
   rw [hX] at HL HT hsz6
   have eJ : (((j + 1 : Nat) : Int)) = (j : Int) + 1 := by omega
   rw [eJ] at HT
   clear A hz hbd hbx hB A6 hX hcatH eJ ya
   go_wp2_with fail
   refine HL.out.mono ?_
   rintro e W7 ⟨rfl, ⟨st, lb1, lc1, us, A7⟩, u7⟩
   have HA7 := Lib.hid (And.intro A7 u7)
   clear A7 u7
   go_wp2_with fail
   refine (HT.out _).mono ?_
   rintro e W8 ⟨rfl, b8⟩
   go_wp2_with fail
   obtain ⟨A, hz, hbd, hbx, hB⟩ := HB.out
   obtain ⟨A7, u7⟩ := HA7.out
   have z6 := kb.size
   have z7 := u7.size
   have hb8 : Below w.heap.size w W8 := by
    have h6 := hB.trans (kb.mono hB.size)
    have h7 := below_upd h6 u7 (fun i _ hi => by omega)
    exact h7.trans (b8.mono h7.size)
   refine ⟨⟨j + 1, _, _, _, _, _, by omega, by simp, A7.below b8, fun h hh => ?_, ?_, ?_, hb8⟩, by simp [intOf]; omega⟩
   ·by_cases e : h = j
    ·subst e; exact put1_same _ _ _
    ·unfold put1; rw [if_neg (by omega)]; exact hz h (by omega)
   ·exact (b8.block _ (by omega)).trans ((u7.block _ (by omega) (fun h => h.2 rfl)).trans ((kb.block _ lr).trans hbd))
   ·exact (b8.block _ (by omega)).trans ((u7.block _ (by omega) (fun h => by omega)).trans ((kb.block _ lxr).trans hbx))
  ·obtain rfl : j = 3 := by omega
   have e1 : decide ((((3 : Nat) : Int) + 1) ≤ 3) = false := by decide
   have yr := hbd.trans y3
   have A3 := A.refoot
   have hfl : ∀ b, foot ag mb 3 vs c b → w.heap.size < b ∧ b ≠ bd := by
    rintro b (h | h | ⟨g, g1, g2, hc⟩)
    ·rw [h]; exact A.pa
    ·rw [h]; exact A.pm
    ·exact A.pc g g1 g2 b hc
   have S : Brd w.heap.size wr bd ag mb 3 sd lb lcap vs c [] (fun _ => []) cs (.slice none 0 0) (fun _ => .slice none 0 0) := by
    refine ⟨A3, ⟨yr, World.ownsRow_nil _ _ _ _, fun h h3 => World.ownsRow_nil _ _ _ _, fun h h3 => rfl, fun g h g3 h3 hne b hb => by simp [Value.ownBlock] at hb, lbd⟩, ?_, fun b hb => by have := (hfl b hb).1; omega, htw⟩
    rintro b (h | h | ⟨g, g3, h⟩)
    ·subst h; exact fun hf => (hfl _ hf).2 rfl
    ·simp [Value.ownBlock] at h
    ·simp [Value.ownBlock] at h
   have HF := Lib.hid (show BroadNew c w bd wr from ⟨ag, mb, sd, lb, lcap, vs, cs, _, _, S, hz, hB⟩)
   clear S A A3 hfl yr hz hbd hbx hB
   go_wp2_with fail
   go_ret
   exact ⟨bd, rfl, HF.out⟩
end Go.Proofs.YtbhppbeepmllaaaGreatDoor

namespace Go.Proofs.YtbhppbeepmllaaaGreatDoor
open Go.RowKit

structure Opr where
 kind : Int
 H : Int
 O : Int
 key : Nat
 D : Int
structure Opr.Ok (p : Opr) : Prop where
 k1 : p.key < 18446744073709551616
 d0 : -9223372036854775808 ≤ p.D
 d1 : p.D ≤ 9223372036854775807
structure Sta where
 K : List Nat
 F : Nat → List Int
 cs : Nat → Nat → List Int
noncomputable def stepS (c : Cfg) (s : Sta) (p : Opr) : Sta :=
 if p.kind = 3 then ⟨s.K, pairF (· + ·) s.F (handN p.H) (handN p.O), pairC c (· + ·) s.cs (handN p.H) (handN p.O)⟩
 else if p.kind = 4 then (if c.m = 2 then s else ⟨s.K, pairF (· - ·) s.F (handN p.H) (handN p.O), pairC c (· - ·) s.cs (handN p.H) (handN p.O)⟩)
 else ⟨plK s.K (p.key % c.keys 0), addF s.K s.F (handN p.H) (p.key % c.keys 0) (smallI c.m p.D), addC c s.cs (handN p.H) (p.key % c.keys 0) (smallI c.m p.D)⟩
theorem AbOk.mono {c : Cfg} {M M' : Int} {N N' : Nat} {K : List Nat} {F : Nat → List Int} {cs : Nat → Nat → List Int} (A : AbOk c M N K F cs) (h : M ≤ M') (hN : N ≤ N') : AbOk c M' N' K F cs :=
 ⟨A.keys, A.nd, A.len, Nat.le_trans A.few hN, fun g g3 => (A.fb g g3).mono h, fun g g3 l hl => (A.cb g g3 l hl).mono h, A.lin, A.cons⟩
theorem stepS_ok {c : Cfg} (R : c.Ok) {s : Sta} {M : Int} {N : Nat} (A : AbOk c M N s.K s.F s.cs) (hM : 1048576 ≤ M) (p : Opr) : AbOk c (2 * M) (N + 1) (stepS c s p).K (stepS c s p).F (stepS c s p).cs := by
 have h1 := handN_lt p.H
 have h2 := handN_lt p.O
 have hs := small_bd c.m p.D
 have hk : p.key % c.keys 0 < c.keys 0 := Nat.mod_lt _ (Nat.one_le_two_pow)
 unfold stepS
 by_cases h3 : p.kind = 3
 ·simp only [if_pos h3]; exact A.merge R (by omega) h1 h2
 ·simp only [if_neg h3]
  by_cases h4 : p.kind = 4
  ·simp only [if_pos h4]
   by_cases hm : c.m = 2
   ·simp only [if_pos hm]; exact A.mono (by omega) (by omega)
   ·simp only [if_neg hm]; exact A.minus R (by omega) hm h1 h2
  ·simp only [if_neg h4]; exact A.add R hM h1 hk ⟨by omega, by omega⟩ hs.2.2
variable {B0 : Nat} {w w' w1 : World} {bd ag mb n : Nat} {sd lb lcap : Nat → Nat} {vs : Nat → Nat → Lv} {c : Cfg} {kv kv' : Value} {fv fv' : Nat → Value}
theorem does_any {s : Sta} (S : Brd B0 w bd ag mb 3 sd lb lcap vs c s.K s.F s.cs kv fv) (R : c.Ok) (M : Int) (N : Nat) (A : AbOk c M N s.K s.F s.cs) (hM : 1048576 ≤ M) (hM2 : M ≤ 562949953421312) (hN : N ≤ 3000) (p : Opr) (hp : p.Ok) :
  Calls Tryz.prog 38 #[.pointer (some ⟨bd, 0, none⟩), .agg #[.int .i64 p.kind, .int .i64 p.H, .int .i64 p.O, .int .u64 (p.key : Int), .int .i64 p.D]] w fun e w' => e = .returned (.bool true) ∧ (∃ kv' fv', Brd B0 w' bd ag mb 3 sd lb lcap vs c (stepS c s p).K (stepS c s p).F (stepS c s p).cs kv' fv') ∧ Upd (fun k => B0 ≤ k) w w' := by
 unfold stepS
 by_cases h3 : p.kind = 3
 ·simp only [if_pos h3]
  rw [h3]
  exact does_merge S R M N A hM hM2 hN p.H p.O p.D p.key
 ·simp only [if_neg h3]
  by_cases h4 : p.kind = 4
  ·simp only [if_pos h4]
   rw [h4]
   by_cases hm : c.m = 2
   ·simp only [if_pos hm]
    exact does_subno S R M N A hM hM2 hN hm p.H p.O p.D p.key
   ·simp only [if_neg hm]
    exact does_minus S R M N A hM hM2 hN hm p.H p.O p.D p.key
  ·simp only [if_neg h4]
   exact does_add S R M N A hM hM2 hN p.kind p.H p.O p.D p.key h3 h4 hp.k1 hp.d0 hp.d1
def OpsAt (w : World) (B : Nat) (v : Value) (l : List Opr) : Prop := ∃ so cap, v = .slice so l.length cap ∧ ∀ i p, l[i]? = some p → p.Ok ∧ ∃ b o, so = some ⟨b, o, none⟩ ∧ b < B ∧ w.cell? ⟨b, o + i * 5, none⟩ = some (.int .i64 p.kind) ∧ w.cell? ⟨b, o + i * 5 + 1, none⟩ = some (.int .i64 p.H) ∧ w.cell? ⟨b, o + i * 5 + 2, none⟩ = some (.int .i64 p.O) ∧ w.cell? ⟨b, o + i * 5 + 3, none⟩ = some (.int .u64 (p.key : Int)) ∧ w.cell? ⟨b, o + i * 5 + 4, none⟩ = some (.int .i64 p.D)
theorem OpsAt.below {B : Nat} {v : Value} {l : List Opr} (h : OpsAt w B v l) (hb : Below B w w') : OpsAt w' B v l := by
 obtain ⟨so, cap, hv, H⟩ := h
 refine ⟨so, cap, hv, fun i p hi => ?_⟩
 obtain ⟨hp, b, o, h1, h2, c0, c1, c2, c3, c4⟩ := H i p hi
 exact ⟨hp, b, o, h1, h2, (hb.cell (p := ⟨b, _, none⟩) h2).trans c0, (hb.cell (p := ⟨b, _, none⟩) h2).trans c1, (hb.cell (p := ⟨b, _, none⟩) h2).trans c2, (hb.cell (p := ⟨b, _, none⟩) h2).trans c3, (hb.cell (p := ⟨b, _, none⟩) h2).trans c4⟩
noncomputable def runS (c : Cfg) (s : Sta) (l : List Opr) : Sta := l.foldl (stepS c) s
theorem runS_snoc (c : Cfg) (s : Sta) (l : List Opr) (p : Opr) : runS c s (l ++ [p]) = stepS c (runS c s l) p := by simp [runS]
def sta0 (c : Cfg) : Sta := ⟨[], fun _ => [], fun _ => zeroC c⟩
theorem zero_getD (n j : Nat) : (List.replicate n (0 : Int)).getD j 0 = 0 := by
 rw [List.getD_eq_getElem?_getD, List.getElem?_replicate]; split <;> rfl
theorem lin0 (c : Cfg) : LinOk c (zeroC c) [] [] := by
 intro l hl
 exact ⟨by simp [zeroC], fun j hj => by rw [zeroC, zero_getD]; rfl⟩
theorem ab0 {c : Cfg} (R : c.Ok) {cs : Nat → Nat → List Int} (hz : ∀ h, h < 3 → cs (h + 1) = zeroC c) : AbOk c 1048576 0 [] (fun _ => []) cs := by
 refine ⟨by simp, by simp, fun h h3 => rfl, by simp, fun h h3 x hx => by simp at hx, fun h h3 l hl x hx => ?_, fun hm h h3 => ?_, fun hm h h3 => ⟨?_, by simp⟩⟩
 ·rw [hz h h3] at hx
  simp only [zeroC, List.mem_replicate] at hx
  omega
 ·rw [hz h h3]; exact lin0 c
 ·rw [hz h h3]; exact (lin0 c).cons R (by simp) (by simp)
theorem runS_ok {c : Cfg} (R : c.Ok) {cs : Nat → Nat → List Int} (hz : ∀ h, h < 3 → cs (h + 1) = zeroC c) (l : List Opr) : ∀ j, j ≤ l.length → AbOk c (1048576 * 2 ^ j) j (runS c ⟨[], fun _ => [], cs⟩ (l.take j)).K (runS c ⟨[], fun _ => [], cs⟩ (l.take j)).F (runS c ⟨[], fun _ => [], cs⟩ (l.take j)).cs
 | 0, _ => by simpa [runS] using ab0 R hz
 | j + 1, h => by
  have ih := runS_ok R hz l j (by omega)
  rw [List.take_succ_eq_append_getElem (show j < l.length by omega), runS_snoc]
  have hp : (1 : Int) ≤ 2 ^ j := by
   have h1 := Nat.one_le_two_pow (n := j)
   have h2 : ((2 ^ j : Nat) : Int) = 2 ^ j := by simp
   omega
  have := stepS_ok R ih (by omega) l[j]
  rw [Int.pow_succ]
  rw [show (1048576 : Int) * (2 ^ j * 2) = 2 * (1048576 * 2 ^ j) by omega]
  exact this
end Go.Proofs.YtbhppbeepmllaaaGreatDoor
