import Derived.Test.YtbhppbeepmllaaaGreatDoorM0e7b2132
import Derived.Test.YtbhppbeepmllaaaGreatDoorM1c7f1465
import Derived.Test.YtbhppbeepmllaaaGreatDoorMf4254665
import Derived.Test.YtbhppbeepmllaaaGreatDoorMac2c1014
import Derived.Test.YtbhppbeepmllaaaGreatDoorMf389b4ca
import Derived.Test.YtbhppbeepmllaaaGreatDoorMad50fc4b
import Derived.Test.YtbhppbeepmllaaaGreatDoorM17d9493a
set_option linter.unusedVariables false
set_option linter.unusedSimpArgs false
set_option maxRecDepth 100000
set_option maxHeartbeats 2000000
namespace Go.Proofs.YtbhppbeepmllaaaGreatDoor
open Go.RowKit

theorem aggAdd_all (ag mb n : Nat) (sd : Nat → Nat) (h : Nat) (key d ec : Int) (P : World → Prop) (w : World) (A : AggSt w ag mb n sd) (hn : n ≤ 32) (h1 : 1 ≤ h) (h2 : h ≤ n)
  (HU : ∀ w1, Below w.heap.size w w1 → Calls Tryz.prog 112 #[.pointer (some ⟨sd h, 0, none⟩), .int .u64 key, .int .i64 d] w1 fun e w' => e = .returned (.int .i64 ec) ∧ P w') :
  Calls Tryz.prog 80 #[.pointer (some ⟨ag, 0, none⟩), .agg #[.int .i64 h, .bool false, .string ⟨#[]⟩, .int .u64 key, .int .i64 d]] w fun e w' => e = .returned (.tuple #[doneR ec, .int .i64 ec]) ∧ P w' := by
 obtain ⟨W1, hW1⟩ : ∃ W1, w.alloc (.cells #[.int .i64 h, .bool false, .string ⟨#[]⟩, .int .u64 key, .int .i64 d] 162) = W1 := ⟨_, rfl⟩
 have b1 : Below w.heap.size w W1 := by rw [← hW1]; exact (Below.refl _ _).alloc (Nat.le_refl _) _
 have x1 : W1.heap[w.heap.size]? = some (.cells #[.int .i64 h, .bool false, .string ⟨#[]⟩, .int .u64 key, .int .i64 d] 162 (0, 0)) := by rw [← hW1]; exact heap_alloc_at _ rfl
 have A1 := A.below b1
 have q0 : W1.cell? ⟨ag, 0, none⟩ = some (.map (some mb)) := cell_of_heap A1.hd 0 _ rfl
 have y0 : W1.cell? ⟨w.heap.size, 0, none⟩ = some (.int .i64 h) := cell_of_heap x1 0 _ rfl
 have hla := lt_of_block A1.hd
 have hlx := lt_of_block x1
 have HX := Lib.hid (And.intro x1 b1)
 have HU' := Lib.hid HU
 have hsz : W1.heap.size = w.heap.size + 1 := by rw [← hW1]; simp
 have HS := Lib.hid hsz
 clear hsz
 clear b1 x1 HU A
 go_enter Tryz.func80, Tryz.ntmps80
 go_wp2_with fail
 have KA : ∀ w', Below W1.heap.size W1 w' → (Below W1.heap.size W1 w' ∧ w'.cell? ⟨ag, 0, none⟩ = some (.map (some mb)) ∧ w'.cell? ⟨w.heap.size, 0, none⟩ = some (.int .i64 h) ∧ (Instr.lookup 215 (.map (some mb)) (.int .i64 (h : Int)) true).run Tryz.prog w' = .ok (.tuple #[.agg #[.pointer (some ⟨sd h, 0, none⟩), .pointer none], .bool true]) w') :=
  fun w' hb => ⟨hb, (hb.cell (p := ⟨ag, 0, none⟩) hla).trans q0, (hb.cell (p := ⟨w.heap.size, 0, none⟩) hlx).trans y0, (A1.below hb).map.look hn h h1 h2⟩
 go_region_held3 (fun w' => Below W1.heap.size W1 w' ∧ w'.cell? ⟨ag, 0, none⟩ = some (.map (some mb)) ∧ w'.cell? ⟨w.heap.size, 0, none⟩ = some (.int .i64 h) ∧ (Instr.lookup 215 (.map (some mb)) (.int .i64 (h : Int)) true).run Tryz.prog w' = .ok (.tuple #[.agg #[.pointer (some ⟨sd h, 0, none⟩), .pointer none], .bool true]) w')
  (first | (refine KA _ ?_; repeat' (first | exact Below.refl _ _ | refine Below.drew ?_ | refine Below.alloc ?_ (by simp) _ | refine Below.setCell ?_ (by simp) _)))
  (fail)
 all_goals (
  obtain ⟨W2, hW2⟩ : ∃ W2, (W1.alloc (.cells #[.pointer (some ⟨sd h, 0, none⟩), .pointer none] 156)).drew = W2 := ⟨_, rfl⟩
  rw [hW2]
  obtain ⟨x1, b1⟩ := HX.out
  have k2 : Below W1.heap.size W1 W2 := by rw [← hW2]; exact ((Below.refl _ _).alloc (Nat.le_refl _) _).drew
  have z2 : W2.heap[W1.heap.size]? = some (.cells #[.pointer (some ⟨sd h, 0, none⟩), .pointer none] 156 (0, 0)) := by rw [← hW2]; exact heap_alloc_at _ rfl
  have x2 := (k2.block _ hlx).trans x1
  have p0 : W2.cell? ⟨W1.heap.size, 0, none⟩ = some (.pointer (some ⟨sd h, 0, none⟩)) := cell_of_heap z2 0 _ rfl
  have p1 : W2.cell? ⟨W1.heap.size, 1, none⟩ = some (.pointer none) := cell_of_heap z2 1 _ rfl
  have y1 : W2.cell? ⟨w.heap.size, 1, none⟩ = some (.bool false) := cell_of_heap x2 1 _ rfl
  have y3 : W2.cell? ⟨w.heap.size, 3, none⟩ = some (.int .u64 key) := cell_of_heap x2 3 _ rfl
  have y4 : W2.cell? ⟨w.heap.size, 4, none⟩ = some (.int .i64 d) := cell_of_heap x2 4 _ rfl
  have b2 : Below w.heap.size w W2 := b1.trans (k2.mono b1.size)
  have HC := Lib.hid (HU'.out W2 b2)
  clear hW2 x1 b1 k2 z2 x2 b2 HX HU' A1 q0 y0 hW1
  go_wp2_with fail
  refine HC.out.mono ?_
  rintro e w3 ⟨rfl, hP⟩
  have HP := Lib.hid hP
  have HD := Lib.hid (done_all ec w3)
  clear HC hP
  go_wp2_with fail
  refine HD.out.mono ?_
  rintro e w4 ⟨rfl, rfl⟩
  go_wp2_with fail
  go_ret2
  exact ⟨rfl, HP.out⟩)
def sOf (l : List UInt8) : ByteArray := ⟨l.toArray⟩
theorem sOf_append (a b : List UInt8) : sOf a ++ sOf b = sOf (a ++ b) := by
 apply ByteArray.ext
 simp [sOf]
theorem sOf_list (l : List UInt8) : (sOf l).data.toList = l := rfl
theorem sOf_of (s : ByteArray) : s = sOf s.data.toList := by cases s; simp [sOf]
theorem sOf_size (l : List UInt8) : (sOf l).size = l.length := by simp [sOf, ByteArray.size]
theorem cat_ok (K : Nat) (n : Int) (hK : K ≤ 1000) (h0 : -9223372036854775808 ≤ n) (h1 : n ≤ 9223372036854775807) : ¬ 9223372036854775807 < K + (sOf (Lib.itoa n)).size := by
 have := itoa_len n h0 h1
 rw [sOf_size]; omega
theorem itoa_call (n : Int) (h0 : -9223372036854775808 ≤ n) (h1 : n ≤ 9223372036854775807) (w : World) (ht : Tab w) :
  Calls Tryz.prog 50 #[.int .i64 n] w fun e w' => e = .returned (.string (sOf (Lib.itoa n))) ∧ Below w.heap.size w w' := by
 refine (Tryz.strconv_Itoa n h0 h1 w ht).mono ?_
 rintro e w' ⟨rfl, k, os, rfl⟩
 exact ⟨rfl, below_grow w k os⟩
theorem fmti_call (n : Int) (h0 : -9223372036854775808 ≤ n) (h1 : n ≤ 9223372036854775807) (w : World) (ht : Tab w) :
  Calls Tryz.prog 84 #[.int .i64 n, .int .i64 10] w fun e w' => e = .returned (.string (sOf (Lib.itoa n))) ∧ Below w.heap.size w w' := by
 refine (Tryz.strconv_FormatInt_10 n h0 h1 w ht).mono ?_
 rintro e w' ⟨rfl, k, os, rfl⟩
 exact ⟨rfl, below_grow w k os⟩
theorem fmtu_call (u : Nat) (hu : u < 18446744073709551616) (w : World) (ht : Tab w) :
  Calls Tryz.prog 85 #[.int .u64 u, .int .i64 10] w fun e w' => e = .returned (.string (sOf (Lib.itoa u))) ∧ Below w.heap.size w w' := by
 refine (fmtu_any u hu w ht).mono ?_
 rintro e w' ⟨rfl, hb⟩
 refine ⟨?_, hb⟩
 rw [Lib.itoa_nonneg]; rfl
theorem err_text (n : Int) (h0 : 0 ≤ n) (h1 : n ≤ 100) (w : World) (ht : Tab w) :
  Calls Tryz.prog 49 #[.int .i64 n] w fun e w' => e = .returned (.string (sOf ([101, 114, 114, 111, 114, 32] ++ Lib.itoa n))) ∧ Below w.heap.size w w' := by
 have HC := Lib.hid (itoa_call n (by omega) (by omega) w ht)
 have hs := sOf_append [101, 114, 114, 111, 114, 32] (Lib.itoa n)
 have hk := cat_ok 6 n (by omega) (by omega) (by omega)
 clear ht
 go_enter Tryz.func49, Tryz.ntmps49
 go_wp2_with fail
 refine HC.out.mono ?_
 rintro e w1 ⟨rfl, hb⟩
 clear HC
 go_wp2_with fail
 go_ret
 exact ⟨congrArg (fun s : ByteArray => Ending.returned (Value.string s)) hs, hb⟩
theorem text_handle (n : Int) (w : World) (ht : Tab w) (h0 : -9223372036854775808 ≤ n) (h1 : n ≤ 9223372036854775807) :
  Calls Tryz.prog 52 #[.iface 180 (.agg #[.int .i64 n])] w fun e w' => e = .returned (.string (sOf ([104, 97, 110, 100, 108, 101, 32] ++ Lib.itoa n))) ∧ Below w.heap.size w w' := by
 have hb0 : Below w.heap.size w ((w.alloc (.cells #[.pointer none, .slice none 0 0] 177)).alloc (.cells #[.int .i64 n] 180)) := ((Below.refl _ _).alloc (Nat.le_refl _) _).alloc (by simp) _
 have HC := Lib.hid (itoa_call n h0 h1 _ (ht.below hb0 ht.lt))
 have HB := Lib.hid hb0
 have hs := sOf_append [104, 97, 110, 100, 108, 101, 32] (Lib.itoa n)
 have hk := cat_ok 7 n (by omega) (by omega) (by omega)
 have ta178 := as110_180_178
 have ta180 := as110_180
 clear ht hb0
 go_enter Tryz.func52, Tryz.ntmps52
 go_wp2_with fail
 refine HC.out.mono ?_
 rintro e w1 ⟨rfl, hb⟩
 clear HC
 go_wp2_with fail
 go_ret
 exact ⟨congrArg (fun s : ByteArray => Ending.returned (Value.string s)) hs, HB.out.trans (hb.mono HB.out.size)⟩
theorem text_number (n : Int) (w : World) (ht : Tab w) (h0 : -9223372036854775808 ≤ n) (h1 : n ≤ 9223372036854775807) :
  Calls Tryz.prog 52 #[.iface 182 (.agg #[.int .i64 n])] w fun e w' => e = .returned (.string (sOf ([110, 117, 109, 98, 101, 114, 32] ++ Lib.itoa n))) ∧ Below w.heap.size w w' := by
 have hb0 : Below w.heap.size w ((w.alloc (.cells #[.pointer none, .slice none 0 0] 177)).alloc (.cells #[.int .i64 n] 182)) := ((Below.refl _ _).alloc (Nat.le_refl _) _).alloc (by simp) _
 have HC := Lib.hid (fmti_call n h0 h1 _ (ht.below hb0 ht.lt))
 have HB := Lib.hid hb0
 have hs := sOf_append [110, 117, 109, 98, 101, 114, 32] (Lib.itoa n)
 have hk := cat_ok 7 n (by omega) (by omega) (by omega)
 have ta178 := as110_182_178
 have ta180 := as110_182_180
 have ta182 := as110_182
 clear ht hb0
 go_enter Tryz.func52, Tryz.ntmps52
 go_wp2_with fail
 refine HC.out.mono ?_
 rintro e w1 ⟨rfl, hb⟩
 clear HC
 go_wp2_with fail
 go_ret
 exact ⟨congrArg (fun s : ByteArray => Ending.returned (Value.string s)) hs, HB.out.trans (hb.mono HB.out.size)⟩
theorem text_key (u : Nat) (w : World) (ht : Tab w) (hu : u < 9223372036854775808) :
  Calls Tryz.prog 52 #[.iface 185 (.agg #[.int .u64 u])] w fun e w' => e = .returned (.string (sOf ([107, 101, 121, 32] ++ Lib.itoa u))) ∧ Below w.heap.size w w' := by
 have hb0 : Below w.heap.size w ((w.alloc (.cells #[.pointer none, .slice none 0 0] 177)).alloc (.cells #[.int .u64 u] 185)) := ((Below.refl _ _).alloc (Nat.le_refl _) _).alloc (by simp) _
 have HC := Lib.hid (fmtu_call u (by omega) _ (ht.below hb0 ht.lt))
 have HB := Lib.hid hb0
 have hs := sOf_append [107, 101, 121, 32] (Lib.itoa u)
 have hk := cat_ok 4 u (by omega) (by omega) (by omega)
 have ta178 := as110_185_178
 have ta180 := as110_185_180
 have ta182 := as110_185_182
 have ta185 := as110_185
 clear ht hb0
 go_enter Tryz.func52, Tryz.ntmps52
 go_wp2_with fail
 refine HC.out.mono ?_
 rintro e w1 ⟨rfl, hb⟩
 clear HC
 go_wp2_with fail
 go_ret
 exact ⟨congrArg (fun s : ByteArray => Ending.returned (Value.string s)) hs, HB.out.trans (hb.mono HB.out.size)⟩
theorem text_done (w : World) :
  Calls Tryz.prog 52 #[.iface 178 (.agg #[])] w fun e w' => e = .returned (.string (sOf [100, 111, 110, 101])) ∧ Below w.heap.size w w' := by
 have hb0 : Below w.heap.size w ((w.alloc (.cells #[.pointer none, .slice none 0 0] 177)).alloc (.cells #[] 178)) := ((Below.refl _ _).alloc (Nat.le_refl _) _).alloc (by simp) _
 have HB := Lib.hid hb0
 have ta178 := as110_178
 clear hb0
 go_enter Tryz.func52, Tryz.ntmps52
 go_wp2_with fail
 go_ret
 exact ⟨rfl, HB.out⟩
end Go.Proofs.YtbhppbeepmllaaaGreatDoor

namespace Go.Proofs.YtbhppbeepmllaaaGreatDoor
open Go.RowKit

theorem arrL_size (l : List Nat) : (arrL l).size = l.length := by simp [arrL]
theorem arr_cell {W : World} {b : Nat} {l : List Nat} (h : W.heap[b]? = some (Obj.cells (arrL l) 93 (0, 0))) {k : Nat} (hk : k < l.length) : W.cell? ⟨b, k, none⟩ = some (.int .i64 ((l.getD k 0 : Nat) : Int)) := by
 refine cell_of_heap h k _ ?_
 simp [arrL, List.getD_eq_getElem?_getD, List.getElem?_eq_getElem hk]
theorem arr_setc {W : World} {b : Nat} {l : List Nat} (h : W.heap[b]? = some (Obj.cells (arrL l) 93 (0, 0))) (k d : Nat) : (W.setCell ⟨b, k, none⟩ (.int .i64 (d : Int))).heap[b]? = some (Obj.cells (arrL (l.set k d)) 93 (0, 0)) := by
 rw [heap_setCell_same W b k _ _ (.int .i64 (d : Int)) h]
 congr 2
 simp [arrL, List.map_set]
theorem ten (l : List Nat) (h : l.length = 10) : ∃ a b c d e f g i j k : Nat, l = [a, b, c, d, e, f, g, i, j, k] := by
 match l, h with
 | [a, b, c, d, e, f, g, i, j, k], _ => exact ⟨a, b, c, d, e, f, g, i, j, k, rfl⟩
def padL (f : Nat → Nat) (k : Nat) : List Nat := (List.range k).map f ++ List.replicate (10 - k) 0
theorem padL_len (f : Nat → Nat) (k : Nat) (h : k ≤ 10) : (padL f k).length = 10 := by simp [padL]; omega
theorem padL_set (f : Nat → Nat) (k : Nat) (h : k < 10) : (padL f k).set k (f k) = padL f (k + 1) := by
 unfold padL
 rw [List.set_append_right _ _ (by simp)]
 obtain ⟨m, hm⟩ : ∃ m, 10 - k = m + 1 := ⟨10 - k - 1, by omega⟩
 rw [hm, show 10 - (k + 1) = m by omega]
 simp [List.replicate_succ, List.range_succ]
theorem padL_ten (f : Nat → Nat) : padL f 10 = (List.range 10).map f := by simp [padL]
theorem zero10 : (#[.int .i64 0, .int .i64 0, .int .i64 0, .int .i64 0, .int .i64 0, .int .i64 0, .int .i64 0, .int .i64 0, .int .i64 0, .int .i64 0] : Array Value) = arrL (List.replicate 10 0) := rfl
theorem set10 {W : World} {b : Nat} (h : W.heap[b]? = some (Obj.cells #[.int .i64 0, .int .i64 0, .int .i64 0, .int .i64 0, .int .i64 0, .int .i64 0, .int .i64 0, .int .i64 0, .int .i64 0, .int .i64 0] 93 (0, 0))) (v0 v1 v2 v3 v4 v5 v6 v7 v8 v9 : Value) : ((((((((((W.setCell ⟨b, 0, none⟩ v0).setCell ⟨b, 1, none⟩ v1).setCell ⟨b, 2, none⟩ v2).setCell ⟨b, 3, none⟩ v3).setCell ⟨b, 4, none⟩ v4).setCell ⟨b, 5, none⟩ v5).setCell ⟨b, 6, none⟩ v6).setCell ⟨b, 7, none⟩ v7).setCell ⟨b, 8, none⟩ v8).setCell ⟨b, 9, none⟩ v9).heap[b]? = some (Obj.cells #[v0, v1, v2, v3, v4, v5, v6, v7, v8, v9] 93 (0, 0)) := by
 have h0 := heap_setCell_same _ b 0 _ _ v0 h
 have h1 := heap_setCell_same _ b 1 _ _ v1 h0
 have h2 := heap_setCell_same _ b 2 _ _ v2 h1
 have h3 := heap_setCell_same _ b 3 _ _ v3 h2
 have h4 := heap_setCell_same _ b 4 _ _ v4 h3
 have h5 := heap_setCell_same _ b 5 _ _ v5 h4
 have h6 := heap_setCell_same _ b 6 _ _ v6 h5
 have h7 := heap_setCell_same _ b 7 _ _ v7 h6
 have h8 := heap_setCell_same _ b 8 _ _ v8 h7
 have h9 := heap_setCell_same _ b 9 _ _ v9 h8
 simpa using h9
theorem below10 {w W : World} {b B : Nat} (h : Below B w W) (hb : B ≤ b) (v0 v1 v2 v3 v4 v5 v6 v7 v8 v9 : Value) : Below B w ((((((((((W.setCell ⟨b, 0, none⟩ v0).setCell ⟨b, 1, none⟩ v1).setCell ⟨b, 2, none⟩ v2).setCell ⟨b, 3, none⟩ v3).setCell ⟨b, 4, none⟩ v4).setCell ⟨b, 5, none⟩ v5).setCell ⟨b, 6, none⟩ v6).setCell ⟨b, 7, none⟩ v7).setCell ⟨b, 8, none⟩ v8).setCell ⟨b, 9, none⟩ v9) :=
 ((((((((((h.setCell (p := ⟨b, 0, none⟩) hb _).setCell (p := ⟨b, 1, none⟩) hb _).setCell (p := ⟨b, 2, none⟩) hb _).setCell (p := ⟨b, 3, none⟩) hb _).setCell (p := ⟨b, 4, none⟩) hb _).setCell (p := ⟨b, 5, none⟩) hb _).setCell (p := ⟨b, 6, none⟩) hb _).setCell (p := ⟨b, 7, none⟩) hb _).setCell (p := ⟨b, 8, none⟩) hb _).setCell (p := ⟨b, 9, none⟩) hb _)
theorem lbelow_any (l : List Nat) (hl : l.length = 10) (w : World) : Calls Tryz.prog 43 #[.agg (arrL l)] w fun e w' => e = .returned (.bool (decide ((32768 : Int) ≤ (l.getD 9 0 : Nat)))) ∧ Below w.heap.size w w' := by
 have hb : Below w.heap.size w (w.alloc (.cells (arrL l) 93)) := (Below.refl _ _).alloc (Nat.le_refl _) _
 have q := arr_cell (W := w.alloc (.cells (arrL l) 93)) (b := w.heap.size) (l := l) (heap_alloc_at _ rfl) (k := 9) (by omega)
 obtain ⟨x, hx⟩ : ∃ x, l.getD 9 0 = x := ⟨_, rfl⟩
 rw [hx] at q ⊢
 clear hx
 go_enter Tryz.func43, Tryz.ntmps43
 go_wp2
 go_ret
 exact ⟨rfl, hb⟩
def plusC (a b : List Nat) : Nat → Nat
 | 0 => 0
 | k + 1 => (a.getD k 0 + b.getD k 0 + plusC a b k) / 65536
def plusO (a b : List Nat) (k : Nat) : Nat := (a.getD k 0 + b.getD k 0 + plusC a b k) % 65536
theorem getD_lt {l : List Nat} (h : ∀ d ∈ l, d < 65536) (k : Nat) : l.getD k 0 < 65536 := by
 by_cases hk : k < l.length
 ·rw [List.getD_eq_getElem?_getD, List.getElem?_eq_getElem hk]; exact h _ (List.getElem_mem hk)
 ·rw [List.getD_eq_getElem?_getD, List.getElem?_eq_none (by omega)]; decide
theorem plusC_le {a b : List Nat} (ha : ∀ d ∈ a, d < 65536) (hb : ∀ d ∈ b, d < 65536) : ∀ k, plusC a b k ≤ 1
 | 0 => by simp [plusC]
 | k + 1 => by
  have h1 := getD_lt ha k
  have h2 := getD_lt hb k
  have := plusC_le ha hb k
  unfold plusC; omega
theorem num_plus (a b : List Nat) : ∀ n, n ≤ a.length → n ≤ b.length → num ((List.range n).map (plusO a b)) + 65536 ^ n * plusC a b n = num (a.take n) + num (b.take n)
 | 0, _, _ => by simp [num, plusC]
 | n + 1, h1, h2 => by
  have ih := num_plus a b n (by omega) (by omega)
  rw [List.range_succ, List.map_append, List.map_singleton, num_snoc, num_take a n (by omega), num_take b n (by omega), List.length_map, List.length_range]
  have e : plusO a b n + 65536 * plusC a b (n + 1) = a.getD n 0 + b.getD n 0 + plusC a b n := by
   have e3 : plusC a b (n + 1) = (a.getD n 0 + b.getD n 0 + plusC a b n) / 65536 := rfl
   unfold plusO; rw [e3]; omega
  have e2 : 65536 ^ n * plusO a b n + 65536 ^ (n + 1) * plusC a b (n + 1) = 65536 ^ n * (a.getD n 0 + b.getD n 0 + plusC a b n) := by
   rw [← e, Nat.mul_add, Nat.pow_succ, Nat.mul_assoc]
  rw [Nat.mul_add, Nat.mul_add] at e2
  omega
theorem lplus_any (a b : List Nat) (ha : a.length = 10) (hb : b.length = 10) (da : ∀ d ∈ a, d < 65536) (db : ∀ d ∈ b, d < 65536) (w : World) :
  Calls Tryz.prog 42 #[.agg (arrL a), .agg (arrL b)] w fun e w' => e = .returned (.agg (arrL ((List.range 10).map (plusO a b)))) ∧ Below w.heap.size w w' := by
 have hpc := plusC_le da db
 obtain ⟨W, hW⟩ : ∃ W, (((w.alloc (.cells (arrL a) 93)).alloc (.cells (arrL b) 93)).alloc (.cells #[.int .i64 0, .int .i64 0, .int .i64 0, .int .i64 0, .int .i64 0, .int .i64 0, .int .i64 0, .int .i64 0, .int .i64 0, .int .i64 0] 93)).alloc (.cells #[.int .i64 0, .int .i64 0, .int .i64 0, .int .i64 0, .int .i64 0, .int .i64 0, .int .i64 0, .int .i64 0, .int .i64 0, .int .i64 0] 93) = W := ⟨_, rfl⟩
 have kW : Below w.heap.size w W := by rw [← hW]; exact ((((Below.refl _ _).alloc (Nat.le_refl _) _).alloc (by simp) _).alloc (by simp; omega) _).alloc (by simp; omega) _
 have xa : W.heap[w.heap.size]? = some (Obj.cells (arrL a) 93 (0, 0)) := by rw [← hW]; exact heap_alloc_under _ (heap_alloc_under _ (heap_alloc_under _ (heap_alloc_at _ rfl)))
 have xb : W.heap[w.heap.size + 1]? = some (Obj.cells (arrL b) 93 (0, 0)) := by rw [← hW]; exact heap_alloc_under _ (heap_alloc_under _ (heap_alloc_at _ (by simp)))
 have xr : W.heap[w.heap.size + 1 + 1]? = some (Obj.cells #[.int .i64 0, .int .i64 0, .int .i64 0, .int .i64 0, .int .i64 0, .int .i64 0, .int .i64 0, .int .i64 0, .int .i64 0, .int .i64 0] 93 (0, 0)) := by rw [← hW]; exact heap_alloc_under _ (heap_alloc_at _ (by simp))
 have xo : W.heap[w.heap.size + 1 + 1 + 1]? = some (Obj.cells (arrL (padL (plusO a b) 0)) 93 (0, 0)) := by rw [← hW]; exact heap_alloc_at _ (by simp)
 go_enter Tryz.func42, Tryz.ntmps42
 go_wp2
 clear hW
 go_loopw [6, 7] (fun cc i wr => ∃ k : Nat, k ≤ 10 ∧ i = .int .i64 k ∧ cc = .int .i64 (plusC a b k : Nat) ∧ wr.heap[w.heap.size + 1 + 1 + 1]? = some (Obj.cells (arrL (padL (plusO a b) k)) 93 (0, 0)) ∧ wr.heap[w.heap.size]? = some (Obj.cells (arrL a) 93 (0, 0)) ∧ wr.heap[w.heap.size + 1]? = some (Obj.cells (arrL b) 93 (0, 0)) ∧ wr.heap[w.heap.size + 1 + 1]? = some (Obj.cells #[.int .i64 0, .int .i64 0, .int .i64 0, .int .i64 0, .int .i64 0, .int .i64 0, .int .i64 0, .int .i64 0, .int .i64 0, .int .i64 0] 93 (0, 0)) ∧ Below w.heap.size w wr) (fun _ i _ => 10 - (intOf i).toNat)
 case atStart => exact ⟨0, by omega, rfl, rfl, xo, xa, xb, xr, kW⟩
 case round =>
  obtain ⟨k, hk, rfl, rfl, ho, h1, h2, h3, hB⟩ := hrel
  by_cases hlt : k < 10
  ·have d1 : decide ((k : Int) < 10) = true := by simp; omega
   have c1 := arr_cell h1 (k := k) (by omega)
   have c2 := arr_cell h2 (k := k) (by omega)
   have ga := getD_lt da k
   have gb := getD_lt db k
   have gc := hpc k
   have l1 := lt_of_block h1
   have l2 := lt_of_block h2
   have l3 := lt_of_block ho
   have ec : plusC a b (k + 1) = (a.getD k 0 + b.getD k 0 + plusC a b k) / 65536 := rfl
   have eo : plusO a b k = (a.getD k 0 + b.getD k 0 + plusC a b k) % 65536 := rfl
   obtain ⟨x, hx⟩ : ∃ x, a.getD k 0 = x := ⟨_, rfl⟩
   obtain ⟨y, hy⟩ : ∃ y, b.getD k 0 = y := ⟨_, rfl⟩
   obtain ⟨z, hz⟩ : ∃ z, plusC a b k = z := ⟨_, rfl⟩
   rw [hx] at c1 ga ec eo
   rw [hy] at c2 gb ec eo
   rw [hz] at gc ec eo ⊢
   have HE := Lib.hid (And.intro ec eo)
   have HH := Lib.hid (And.intro ho (And.intro h1 (And.intro h2 (And.intro h3 hB))))
   have fz : ∀ o, wr.frozen? ⟨w.heap.size + 1 + 1 + 1, o, none⟩ = false := fun o => by simp [World.frozen?, ho]
   obtain ⟨v0, c3⟩ : ∃ v0 : Nat, wr.cell? ⟨w.heap.size + 1 + 1 + 1, k, none⟩ = some (.int .i64 (v0 : Int)) := ⟨_, arr_cell ho (by rw [padL_len _ _ hk]; exact hlt)⟩
   clear ec eo hx hy hz ho h1 h2 h3 hB
   go_wp2_with fail
   go_quiet (fail)
   go_wp2_with fail
   go_roundw
   case rel =>
    obtain ⟨ho, h1, h2, h3, hB⟩ := HH.out
    obtain ⟨ec, eo⟩ := HE.out
    have kd := fun n => below_drewN (Below.refl wr.heap.size wr) n
    have l4 := lt_of_block h3
    have e1 : ((x : Int) + y + z) % 65536 = (((x + y + z) % 65536 : Nat) : Int) := by omega
    refine ⟨k + 1, by omega, by simp, ?_, ?_, ?_, ?_, ?_, ?_⟩
    ·rw [ec]; simp
    ·rw [e1, ← eo, ← padL_set _ _ hlt]
     exact arr_setc (((kd _).block _ l3).trans ho) k _
    ·exact (heap_setCell_other _ _ _ _ (by simp; omega)).trans (((kd _).block _ l1).trans h1)
    ·exact (heap_setCell_other _ _ _ _ (by simp)).trans (((kd _).block _ l2).trans h2)
    ·exact (heap_setCell_other _ _ _ _ (by simp)).trans (((kd _).block _ l4).trans h3)
    ·exact (below_drewN hB _).setCell (by simp; omega) _
   case measure => simp [intOf]; omega
  ·obtain rfl : k = 10 := by omega
   have d1 : decide (((10 : Nat) : Int) < 10) = false := by decide
   obtain ⟨d0, e1, e2, e3, e4, e5, e6, e7, e8, e9, hten⟩ := ten (padL (plusO a b) 10) (by first | exact padL_len _ _ (Nat.le_refl _) | simp)
   have HT := Lib.hid hten
   rw [hten] at ho
   have hx : wr.heap[w.heap.size + 1 + 1 + 1]? = some (Obj.cells #[.int .i64 (d0 : Int), .int .i64 (e1 : Int), .int .i64 (e2 : Int), .int .i64 (e3 : Int), .int .i64 (e4 : Int), .int .i64 (e5 : Int), .int .i64 (e6 : Int), .int .i64 (e7 : Int), .int .i64 (e8 : Int), .int .i64 (e9 : Int)] 93 (0, 0)) := ho
   have c0 := cell_of_heap hx 0 _ rfl
   have c1 := cell_of_heap hx 1 _ rfl
   have c2 := cell_of_heap hx 2 _ rfl
   have c3 := cell_of_heap hx 3 _ rfl
   have c4 := cell_of_heap hx 4 _ rfl
   have c5 := cell_of_heap hx 5 _ rfl
   have c6 := cell_of_heap hx 6 _ rfl
   have c7 := cell_of_heap hx 7 _ rfl
   have c8 := cell_of_heap hx 8 _ rfl
   have c9 := cell_of_heap hx 9 _ rfl
   have fz : ∀ o, wr.frozen? ⟨w.heap.size + 1 + 1, o, none⟩ = false := fun o => by simp [World.frozen?, h3]
   have z0 := cell_of_heap h3 0 _ rfl
   have z1 := cell_of_heap h3 1 _ rfl
   have z2 := cell_of_heap h3 2 _ rfl
   have z3 := cell_of_heap h3 3 _ rfl
   have z4 := cell_of_heap h3 4 _ rfl
   have z5 := cell_of_heap h3 5 _ rfl
   have z6 := cell_of_heap h3 6 _ rfl
   have z7 := cell_of_heap h3 7 _ rfl
   have z8 := cell_of_heap h3 8 _ rfl
   have z9 := cell_of_heap h3 9 _ rfl
   have l1 := lt_of_block hx
   have l2 := lt_of_block h3
   have HF := Lib.hid (And.intro (set10 h3 (.int .i64 (d0 : Int)) (.int .i64 (e1 : Int)) (.int .i64 (e2 : Int)) (.int .i64 (e3 : Int)) (.int .i64 (e4 : Int)) (.int .i64 (e5 : Int)) (.int .i64 (e6 : Int)) (.int .i64 (e7 : Int)) (.int .i64 (e8 : Int)) (.int .i64 (e9 : Int))) (below10 hB (b := w.heap.size + 1 + 1) (by omega) (.int .i64 (d0 : Int)) (.int .i64 (e1 : Int)) (.int .i64 (e2 : Int)) (.int .i64 (e3 : Int)) (.int .i64 (e4 : Int)) (.int .i64 (e5 : Int)) (.int .i64 (e6 : Int)) (.int .i64 (e7 : Int)) (.int .i64 (e8 : Int)) (.int .i64 (e9 : Int))))
   clear ho hx h3 hB hten h1 h2 xa xb xr xo kW hpc
   go_wp2_with fail
   obtain ⟨hF, hBF⟩ := HF.out
   obtain ⟨V, hV⟩ : ∃ V, ((((((((((wr.setCell ⟨w.heap.size + 1 + 1, 0, none⟩ (.int .i64 (d0 : Int))).setCell ⟨w.heap.size + 1 + 1, 1, none⟩ (.int .i64 (e1 : Int))).setCell ⟨w.heap.size + 1 + 1, 2, none⟩ (.int .i64 (e2 : Int))).setCell ⟨w.heap.size + 1 + 1, 3, none⟩ (.int .i64 (e3 : Int))).setCell ⟨w.heap.size + 1 + 1, 4, none⟩ (.int .i64 (e4 : Int))).setCell ⟨w.heap.size + 1 + 1, 5, none⟩ (.int .i64 (e5 : Int))).setCell ⟨w.heap.size + 1 + 1, 6, none⟩ (.int .i64 (e6 : Int))).setCell ⟨w.heap.size + 1 + 1, 7, none⟩ (.int .i64 (e7 : Int))).setCell ⟨w.heap.size + 1 + 1, 8, none⟩ (.int .i64 (e8 : Int))).setCell ⟨w.heap.size + 1 + 1, 9, none⟩ (.int .i64 (e9 : Int))) = V := ⟨_, rfl⟩
   rw [hV] at hF hBF ⊢
   have r0 := cell_of_heap hF 0 _ rfl
   have r1 := cell_of_heap hF 1 _ rfl
   have r2 := cell_of_heap hF 2 _ rfl
   have r3 := cell_of_heap hF 3 _ rfl
   have r4 := cell_of_heap hF 4 _ rfl
   have r5 := cell_of_heap hF 5 _ rfl
   have r6 := cell_of_heap hF 6 _ rfl
   have r7 := cell_of_heap hF 7 _ rfl
   have r8 := cell_of_heap hF 8 _ rfl
   have r9 := cell_of_heap hF 9 _ rfl
   exact bodyPost_ret (v := .agg #[.int .i64 (d0 : Int), .int .i64 (e1 : Int), .int .i64 (e2 : Int), .int .i64 (e3 : Int), .int .i64 (e4 : Int), .int .i64 (e5 : Int), .int .i64 (e6 : Int), .int .i64 (e7 : Int), .int .i64 (e8 : Int), .int .i64 (e9 : Int)]) (by simp [results, Tryz.results42, go_sem, r0, r1, r2, r3, r4, r5, r6, r7, r8, r9]) rfl ⟨by rw [← padL_ten, HT.out]; rfl, hBF⟩
end Go.Proofs.YtbhppbeepmllaaaGreatDoor

namespace Go.Proofs.YtbhppbeepmllaaaGreatDoor
open Go.RowKit

def ofO (n : Int) (k : Nat) : Nat := if k < 4 then ((n % 18446744073709551616).toNat / 65536 ^ k) % 65536 else if n < 0 then 65535 else 0
theorem dig_and (u k : Nat) (hu : u < 18446744073709551616) : wrap64 (bits BinOp.and IntKind.u64 ((u : Int) / 2 ^ (16 * k)) 65535) = ((u / 65536 ^ k % 65536 : Nat) : Int) := by
 have e1 : ((u : Int) / 2 ^ (16 * k)) = ((u / 65536 ^ k : Nat) : Int) := by
  have : (65536 : Nat) ^ k = 2 ^ (16 * k) := by rw [Nat.pow_mul]
  rw [this]; simp
 rw [e1]
 have h1 : u / 65536 ^ k < 18446744073709551616 := Nat.lt_of_le_of_lt (Nat.div_le_self _ _) hu
 have h2 := u64_and_nat (u / 65536 ^ k) 65535 h1 (by decide)
 have h3 : (u / 65536 ^ k) &&& 65535 = (u / 65536 ^ k) % 65536 := Nat.and_two_pow_sub_one_eq_mod _ 16
 rw [h3] at h2
 have h4 : (u / 65536 ^ k) % 65536 < 65536 := Nat.mod_lt _ (by decide)
 have h5 : bits BinOp.and IntKind.u64 ((u / 65536 ^ k : Nat) : Int) 65535 = ((u / 65536 ^ k % 65536 : Nat) : Int) := h2
 rw [h5]
 exact IntWalk.wrap64_in _ (by omega)
theorem lof_any (n : Int) (h0 : -9223372036854775808 ≤ n) (h1 : n ≤ 9223372036854775807) (w : World) : Calls Tryz.prog 41 #[.int .i64 n] w fun e w' => e = .returned (.agg (arrL ((List.range 10).map (ofO n)))) ∧ Below w.heap.size w w' := by
 obtain ⟨W, hW⟩ : ∃ W, (w.alloc (.cells #[.int .i64 0, .int .i64 0, .int .i64 0, .int .i64 0, .int .i64 0, .int .i64 0, .int .i64 0, .int .i64 0, .int .i64 0, .int .i64 0] 93)).alloc (.cells #[.int .i64 0, .int .i64 0, .int .i64 0, .int .i64 0, .int .i64 0, .int .i64 0, .int .i64 0, .int .i64 0, .int .i64 0, .int .i64 0] 93) = W := ⟨_, rfl⟩
 have kW : Below w.heap.size w W := by rw [← hW]; exact ((Below.refl _ _).alloc (Nat.le_refl _) _).alloc (by simp) _
 have xr : W.heap[w.heap.size]? = some (Obj.cells #[.int .i64 0, .int .i64 0, .int .i64 0, .int .i64 0, .int .i64 0, .int .i64 0, .int .i64 0, .int .i64 0, .int .i64 0, .int .i64 0] 93 (0, 0)) := by rw [← hW]; exact heap_alloc_under _ (heap_alloc_at _ rfl)
 have xo : W.heap[w.heap.size + 1]? = some (Obj.cells (arrL (padL (ofO n) 0)) 93 (0, 0)) := by rw [← hW]; exact heap_alloc_at _ (by simp)
 obtain ⟨u, hu⟩ : ∃ u : Nat, (n % 18446744073709551616).toNat = u := ⟨_, rfl⟩
 have hu2 : IntKind.u64.wrap n = (u : Int) := by rw [← hu, IntKind.wrap_u64]; omega
 have hu3 : u < 18446744073709551616 := by omega
 have hfo : ∀ k, ofO n k = if k < 4 then (u / 65536 ^ k) % 65536 else if n < 0 then 65535 else 0 := fun k => by unfold ofO; rw [hu]
 have HFO := Lib.hid hfo
 clear hfo hu
 go_enter Tryz.func41, Tryz.ntmps41
 go_wp2
 clear hW
 go_loopw [4] (fun i wr => ∃ k : Nat, k ≤ 10 ∧ i = .int .i64 k ∧ wr.heap[w.heap.size + 1]? = some (Obj.cells (arrL (padL (ofO n) k)) 93 (0, 0)) ∧ wr.heap[w.heap.size]? = some (Obj.cells #[.int .i64 0, .int .i64 0, .int .i64 0, .int .i64 0, .int .i64 0, .int .i64 0, .int .i64 0, .int .i64 0, .int .i64 0, .int .i64 0] 93 (0, 0)) ∧ Below w.heap.size w wr) (fun i _ => 10 - (intOf i).toNat)
 case atStart => exact ⟨0, by omega, rfl, xo, xr, kW⟩
 case round =>
  obtain ⟨k, hk, rfl, ho, h3, hB⟩ := hrel
  by_cases hlt : k < 10
  ·have d1 : decide ((k : Int) < 10) = true := by simp; omega
   have l3 := lt_of_block ho
   have HH := Lib.hid (And.intro ho (And.intro h3 hB))
   have hpl := padL_len (ofO n) k hk
   obtain ⟨L, hL⟩ : ∃ L, padL (ofO n) k = L := ⟨_, rfl⟩
   rw [hL] at ho hpl
   obtain ⟨v0, c3⟩ : ∃ v0 : Nat, wr.cell? ⟨w.heap.size + 1, k, none⟩ = some (.int .i64 (v0 : Int)) := ⟨_, arr_cell ho (by omega)⟩
   have fz : ∀ o, wr.frozen? ⟨w.heap.size + 1, o, none⟩ = false := fun o => by simp [World.frozen?, ho]
   have g1 := arr_setc ho k 0
   have g2 := arr_setc g1 k 65535
   have HG := Lib.hid (And.intro ho (And.intro g1 g2))
   have c4 := arr_cell g1 (k := k) (by simp; omega)
   clear ho h3 hB g1 g2
   by_cases hneg : n < 0
   ·by_cases h4 : k < 4
    ·skip
     have hdg : ofO n k = (u / 65536 ^ k % 65536) := by rw [HFO.out, if_pos h4]
     have d4 : decide ((k : Int) < 4) = true := by simp; omega
     go_wp2_with fail
     go_roundw
     case rel =>
      obtain ⟨ho, h3, hB⟩ := HH.out
      refine ⟨k + 1, by omega, by simp, ?_, ?_, ?_⟩
      ·have hs := arr_setc (arr_setc (arr_setc (HG.out.1) k 0) k 65535) k (u / 65536 ^ k % 65536)
       try simp only [List.set_set] at hs
       rw [← padL_set (ofO n) k hlt, hL, hdg]
       rw [dig_and u k hu3]
       exact hs
      ·exact (heap_setCell_other _ _ _ _ (by simp)).trans ((heap_setCell_other _ _ _ _ (by simp)).trans ((heap_setCell_other _ _ _ _ (by simp)).trans (h3)))
      ·exact (((hB).setCell (by simp) _).setCell (by simp) _).setCell (by simp) _
     case measure => simp [intOf]; omega
    ·skip
     have hdg : ofO n k = 65535 := by rw [HFO.out, if_neg h4, if_pos hneg]
     have d4 : decide ((k : Int) < 4) = false := by simp; omega
     go_wp2_with fail
     go_roundw
     case rel =>
      obtain ⟨ho, h3, hB⟩ := HH.out
      refine ⟨k + 1, by omega, by simp, ?_, ?_, ?_⟩
      ·have hs := arr_setc (arr_setc (HG.out.1) k 0) k 65535
       try simp only [List.set_set] at hs
       rw [← padL_set (ofO n) k hlt, hL, hdg]
       skip
       exact hs
      ·exact (heap_setCell_other _ _ _ _ (by simp)).trans ((heap_setCell_other _ _ _ _ (by simp)).trans (h3))
      ·exact ((hB).setCell (by simp) _).setCell (by simp) _
     case measure => simp [intOf]; omega
   ·by_cases h4 : k < 4
    ·skip
     have hdg : ofO n k = (u / 65536 ^ k % 65536) := by rw [HFO.out, if_pos h4]
     have d4 : decide ((k : Int) < 4) = true := by simp; omega
     go_wp2_with fail
     go_roundw
     case rel =>
      obtain ⟨ho, h3, hB⟩ := HH.out
      refine ⟨k + 1, by omega, by simp, ?_, ?_, ?_⟩
      ·have hs := arr_setc (arr_setc (HG.out.1) k 0) k (u / 65536 ^ k % 65536)
       try simp only [List.set_set] at hs
       rw [← padL_set (ofO n) k hlt, hL, hdg]
       rw [dig_and u k hu3]
       exact hs
      ·exact (heap_setCell_other _ _ _ _ (by simp)).trans ((heap_setCell_other _ _ _ _ (by simp)).trans (h3))
      ·exact ((hB).setCell (by simp) _).setCell (by simp) _
     case measure => simp [intOf]; omega
    ·skip
     have hdg : ofO n k = 0 := by rw [HFO.out, if_neg h4, if_neg hneg]
     have d4 : decide ((k : Int) < 4) = false := by simp; omega
     go_wp2_with fail
     go_roundw
     case rel =>
      obtain ⟨ho, h3, hB⟩ := HH.out
      refine ⟨k + 1, by omega, by simp, ?_, ?_, ?_⟩
      ·have hs := arr_setc (HG.out.1) k 0
       try simp only [List.set_set] at hs
       rw [← padL_set (ofO n) k hlt, hL, hdg]
       skip
       exact hs
      ·exact (heap_setCell_other _ _ _ _ (by simp)).trans (h3)
      ·exact (hB).setCell (by simp) _
     case measure => simp [intOf]; omega
  ·obtain rfl : k = 10 := by omega
   have d1 : decide (((10 : Nat) : Int) < 10) = false := by decide
   obtain ⟨d0, e1, e2, e3, e4, e5, e6, e7, e8, e9, hten⟩ := ten (padL (ofO n) 10) (by first | exact padL_len _ _ (Nat.le_refl _) | simp)
   have HT := Lib.hid hten
   rw [hten] at ho
   have hx : wr.heap[w.heap.size + 1]? = some (Obj.cells #[.int .i64 (d0 : Int), .int .i64 (e1 : Int), .int .i64 (e2 : Int), .int .i64 (e3 : Int), .int .i64 (e4 : Int), .int .i64 (e5 : Int), .int .i64 (e6 : Int), .int .i64 (e7 : Int), .int .i64 (e8 : Int), .int .i64 (e9 : Int)] 93 (0, 0)) := ho
   have c0 := cell_of_heap hx 0 _ rfl
   have c1 := cell_of_heap hx 1 _ rfl
   have c2 := cell_of_heap hx 2 _ rfl
   have c3 := cell_of_heap hx 3 _ rfl
   have c4 := cell_of_heap hx 4 _ rfl
   have c5 := cell_of_heap hx 5 _ rfl
   have c6 := cell_of_heap hx 6 _ rfl
   have c7 := cell_of_heap hx 7 _ rfl
   have c8 := cell_of_heap hx 8 _ rfl
   have c9 := cell_of_heap hx 9 _ rfl
   have fz : ∀ o, wr.frozen? ⟨w.heap.size, o, none⟩ = false := fun o => by simp [World.frozen?, h3]
   have z0 := cell_of_heap h3 0 _ rfl
   have z1 := cell_of_heap h3 1 _ rfl
   have z2 := cell_of_heap h3 2 _ rfl
   have z3 := cell_of_heap h3 3 _ rfl
   have z4 := cell_of_heap h3 4 _ rfl
   have z5 := cell_of_heap h3 5 _ rfl
   have z6 := cell_of_heap h3 6 _ rfl
   have z7 := cell_of_heap h3 7 _ rfl
   have z8 := cell_of_heap h3 8 _ rfl
   have z9 := cell_of_heap h3 9 _ rfl
   have l1 := lt_of_block hx
   have l2 := lt_of_block h3
   have HF := Lib.hid (And.intro (set10 h3 (.int .i64 (d0 : Int)) (.int .i64 (e1 : Int)) (.int .i64 (e2 : Int)) (.int .i64 (e3 : Int)) (.int .i64 (e4 : Int)) (.int .i64 (e5 : Int)) (.int .i64 (e6 : Int)) (.int .i64 (e7 : Int)) (.int .i64 (e8 : Int)) (.int .i64 (e9 : Int))) (below10 hB (b := w.heap.size) (by exact Nat.le_refl _) (.int .i64 (d0 : Int)) (.int .i64 (e1 : Int)) (.int .i64 (e2 : Int)) (.int .i64 (e3 : Int)) (.int .i64 (e4 : Int)) (.int .i64 (e5 : Int)) (.int .i64 (e6 : Int)) (.int .i64 (e7 : Int)) (.int .i64 (e8 : Int)) (.int .i64 (e9 : Int))))
   clear ho hx h3 hB hten xr xo kW
   go_wp2_with fail
   obtain ⟨hF, hBF⟩ := HF.out
   obtain ⟨V, hV⟩ : ∃ V, ((((((((((wr.setCell ⟨w.heap.size, 0, none⟩ (.int .i64 (d0 : Int))).setCell ⟨w.heap.size, 1, none⟩ (.int .i64 (e1 : Int))).setCell ⟨w.heap.size, 2, none⟩ (.int .i64 (e2 : Int))).setCell ⟨w.heap.size, 3, none⟩ (.int .i64 (e3 : Int))).setCell ⟨w.heap.size, 4, none⟩ (.int .i64 (e4 : Int))).setCell ⟨w.heap.size, 5, none⟩ (.int .i64 (e5 : Int))).setCell ⟨w.heap.size, 6, none⟩ (.int .i64 (e6 : Int))).setCell ⟨w.heap.size, 7, none⟩ (.int .i64 (e7 : Int))).setCell ⟨w.heap.size, 8, none⟩ (.int .i64 (e8 : Int))).setCell ⟨w.heap.size, 9, none⟩ (.int .i64 (e9 : Int))) = V := ⟨_, rfl⟩
   rw [hV] at hF hBF ⊢
   have r0 := cell_of_heap hF 0 _ rfl
   have r1 := cell_of_heap hF 1 _ rfl
   have r2 := cell_of_heap hF 2 _ rfl
   have r3 := cell_of_heap hF 3 _ rfl
   have r4 := cell_of_heap hF 4 _ rfl
   have r5 := cell_of_heap hF 5 _ rfl
   have r6 := cell_of_heap hF 6 _ rfl
   have r7 := cell_of_heap hF 7 _ rfl
   have r8 := cell_of_heap hF 8 _ rfl
   have r9 := cell_of_heap hF 9 _ rfl
   exact bodyPost_ret (v := .agg #[.int .i64 (d0 : Int), .int .i64 (e1 : Int), .int .i64 (e2 : Int), .int .i64 (e3 : Int), .int .i64 (e4 : Int), .int .i64 (e5 : Int), .int .i64 (e6 : Int), .int .i64 (e7 : Int), .int .i64 (e8 : Int), .int .i64 (e9 : Int)]) (by simp [results, Tryz.results41, go_sem, r0, r1, r2, r3, r4, r5, r6, r7, r8, r9]) rfl ⟨by rw [← padL_ten, HT.out]; rfl, hBF⟩
end Go.Proofs.YtbhppbeepmllaaaGreatDoor

namespace Go.Proofs.YtbhppbeepmllaaaGreatDoor
open Go.RowKit

theorem ofO_long (n : Int) (h0 : -9223372036854775808 ≤ n) (h1 : n ≤ 9223372036854775807) : (List.range 10).map (ofO n) = longD n := by
 refine longD_eq _ _ (by simp) ?_ ?_
 ·intro d hd
  simp only [List.mem_map, List.mem_range] at hd
  obtain ⟨k, _, rfl⟩ := hd
  unfold ofO
  split
  ·exact Nat.mod_lt _ (by decide)
  ·split <;> decide
 ·obtain ⟨u, hu⟩ : ∃ u : Nat, (n % 18446744073709551616).toNat = u := ⟨_, rfl⟩
  have e : (List.range 10).map (ofO n) = [u % 65536, u / 65536 % 65536, u / 4294967296 % 65536, u / 281474976710656 % 65536, if n < 0 then 65535 else 0, if n < 0 then 65535 else 0, if n < 0 then 65535 else 0, if n < 0 then 65535 else 0, if n < 0 then 65535 else 0, if n < 0 then 65535 else 0] := by
   simp [List.range, List.range.loop, ofO, hu]
  rw [e]
  by_cases hn : n < 0
  ·simp only [if_pos hn, num]; omega
  ·simp only [if_neg hn, num]; omega
def negO (a : List Nat) (k : Nat) : Nat := 65535 - a.getD k 0
def oneL : List Nat := [1, 0, 0, 0, 0, 0, 0, 0, 0, 0]
def minusL (a : List Nat) : List Nat := (List.range 10).map (plusO ((List.range 10).map (negO a)) oneL)
theorem neg_lt (a : List Nat) : ∀ d ∈ (List.range 10).map (negO a), d < 65536 := by
 intro d hd
 simp only [List.mem_map, List.mem_range] at hd
 obtain ⟨k, _, rfl⟩ := hd
 unfold negO; omega
theorem plus_lt (a b : List Nat) : ∀ d ∈ (List.range 10).map (plusO a b), d < 65536 := by
 intro d hd
 simp only [List.mem_map, List.mem_range] at hd
 obtain ⟨k, _, rfl⟩ := hd
 exact Nat.mod_lt _ (by decide)
theorem num_neg (a : List Nat) (ha : ∀ d ∈ a, d < 65536) : ∀ n, n ≤ a.length → num ((List.range n).map (negO a)) + num (a.take n) + 1 = 65536 ^ n
 | 0, _ => by simp [num]
 | n + 1, h => by
  have ih := num_neg a ha n (by omega)
  have hd := getD_lt ha n
  rw [List.range_succ, List.map_append, List.map_singleton, num_snoc, num_take a n (by omega), List.length_map, List.length_range]
  have e : negO a n + a.getD n 0 + 1 = 65536 := by unfold negO; omega
  have e2 : 65536 ^ n * negO a n + 65536 ^ n * a.getD n 0 + 65536 ^ n = 65536 ^ (n + 1) := by
   rw [← Nat.mul_add, Nat.pow_succ, ← e]; simp [Nat.mul_add]
  omega
theorem plus_long (x y : Int) : (List.range 10).map (plusO (longD x) (longD y)) = longD (x + y) := by
 refine longD_eq _ _ (by simp) (plus_lt _ _) ?_
 have h := num_plus (longD x) (longD y) 10 (by rw [longD_len]; exact Nat.le_refl _) (by rw [longD_len]; exact Nat.le_refl _)
 rw [List.take_of_length_le (by rw [longD_len]; exact Nat.le_refl _), List.take_of_length_le (by rw [longD_len]; exact Nat.le_refl _), show (65536 : Nat) ^ 10 = 1461501637330902918203684832716283019655932542976 by decide] at h
 have hx := longD_num x
 have hy := longD_num y
 generalize num ((List.range 10).map (plusO (longD x) (longD y))) = r at h ⊢
 generalize plusC (longD x) (longD y) 10 = cc at h
 generalize num (longD x) = a at h hx
 generalize num (longD y) = b at h hy
 omega
theorem minus_long (x : Int) : minusL (longD x) = longD (-x) := by
 refine longD_eq _ _ (by simp [minusL]) (plus_lt _ _) ?_
 have hn := num_neg (longD x) (longD_lt x) 10 (by rw [longD_len]; exact Nat.le_refl _)
 have h := num_plus ((List.range 10).map (negO (longD x))) oneL 10 (by simp) (by decide)
 rw [List.take_of_length_le (by rw [longD_len]; exact Nat.le_refl _), show (65536 : Nat) ^ 10 = 1461501637330902918203684832716283019655932542976 by decide] at hn
 rw [List.take_of_length_le (by simp), List.take_of_length_le (by decide), show (65536 : Nat) ^ 10 = 1461501637330902918203684832716283019655932542976 by decide, show num oneL = 1 by decide] at h
 have hx := longD_num x
 unfold minusL
 generalize num ((List.range 10).map (plusO ((List.range 10).map (negO (longD x))) oneL)) = r at h ⊢
 generalize plusC ((List.range 10).map (negO (longD x))) oneL 10 = cc at h
 generalize num ((List.range 10).map (negO (longD x))) = m at h hn
 generalize num (longD x) = a at hn hx
 omega
theorem lminus_any (a : List Nat) (ha : a.length = 10) (da : ∀ d ∈ a, d < 65536) (w : World) :
  Calls Tryz.prog 44 #[.agg (arrL a)] w fun e w' => e = .returned (.agg (arrL (minusL a))) ∧ Below w.heap.size w w' := by
 obtain ⟨W, hW⟩ : ∃ W, ((w.alloc (.cells (arrL a) 93)).alloc (.cells #[.int .i64 0, .int .i64 0, .int .i64 0, .int .i64 0, .int .i64 0, .int .i64 0, .int .i64 0, .int .i64 0, .int .i64 0, .int .i64 0] 93)).alloc (.cells #[.int .i64 0, .int .i64 0, .int .i64 0, .int .i64 0, .int .i64 0, .int .i64 0, .int .i64 0, .int .i64 0, .int .i64 0, .int .i64 0] 93) = W := ⟨_, rfl⟩
 have kW : Below w.heap.size w W := by rw [← hW]; exact (((Below.refl _ _).alloc (Nat.le_refl _) _).alloc (by simp) _).alloc (by simp; omega) _
 have xa : W.heap[w.heap.size]? = some (Obj.cells (arrL a) 93 (0, 0)) := by rw [← hW]; exact heap_alloc_under _ (heap_alloc_under _ (heap_alloc_at _ rfl))
 have xr : W.heap[w.heap.size + 1]? = some (Obj.cells #[.int .i64 0, .int .i64 0, .int .i64 0, .int .i64 0, .int .i64 0, .int .i64 0, .int .i64 0, .int .i64 0, .int .i64 0, .int .i64 0] 93 (0, 0)) := by rw [← hW]; exact heap_alloc_under _ (heap_alloc_at _ (by simp))
 have xo : W.heap[w.heap.size + 1 + 1]? = some (Obj.cells (arrL (padL (negO a) 0)) 93 (0, 0)) := by rw [← hW]; exact heap_alloc_at _ (by simp)
 go_enter Tryz.func44, Tryz.ntmps44
 go_wp2
 clear hW
 go_loopw [4] (fun i wr => ∃ k : Nat, k ≤ 10 ∧ i = .int .i64 k ∧ wr.heap[w.heap.size + 1 + 1]? = some (Obj.cells (arrL (padL (negO a) k)) 93 (0, 0)) ∧ wr.heap[w.heap.size]? = some (Obj.cells (arrL a) 93 (0, 0)) ∧ wr.heap[w.heap.size + 1]? = some (Obj.cells #[.int .i64 0, .int .i64 0, .int .i64 0, .int .i64 0, .int .i64 0, .int .i64 0, .int .i64 0, .int .i64 0, .int .i64 0, .int .i64 0] 93 (0, 0)) ∧ Below w.heap.size w wr) (fun i _ => 10 - (intOf i).toNat)
 case atStart => exact ⟨0, by omega, rfl, xo, xa, xr, kW⟩
 case round =>
  obtain ⟨k, hk, rfl, ho, h1, h3, hB⟩ := hrel
  by_cases hlt : k < 10
  ·have d1 : decide ((k : Int) < 10) = true := by simp; omega
   have c1 := arr_cell h1 (k := k) (by omega)
   have ga := getD_lt da k
   have l1 := lt_of_block h1
   have l3 := lt_of_block ho
   have eo : negO a k = 65535 - a.getD k 0 := rfl
   obtain ⟨x, hx⟩ : ∃ x, a.getD k 0 = x := ⟨_, rfl⟩
   rw [hx] at c1 ga eo
   have HE := Lib.hid eo
   have HH := Lib.hid (And.intro ho (And.intro h1 (And.intro h3 hB)))
   have fz : ∀ o, wr.frozen? ⟨w.heap.size + 1 + 1, o, none⟩ = false := fun o => by simp [World.frozen?, ho]
   obtain ⟨v0, c3⟩ : ∃ v0 : Nat, wr.cell? ⟨w.heap.size + 1 + 1, k, none⟩ = some (.int .i64 (v0 : Int)) := ⟨_, arr_cell ho (by rw [padL_len _ _ hk]; exact hlt)⟩
   clear eo hx ho h1 h3 hB
   go_wp2_with fail
   go_roundw
   case rel =>
    obtain ⟨ho, h1, h3, hB⟩ := HH.out
    have e1 : (65535 : Int) - x = ((65535 - x : Nat) : Int) := by omega
    refine ⟨k + 1, by omega, by simp, ?_, ?_, ?_, ?_⟩
    ·rw [e1, ← HE.out, ← padL_set _ _ hlt]
     exact arr_setc ho k _
    ·exact (heap_setCell_other _ _ _ _ (by simp; omega)).trans h1
    ·exact (heap_setCell_other _ _ _ _ (by simp)).trans h3
    ·exact hB.setCell (by simp; omega) _
   case measure => simp [intOf]; omega
  ·obtain rfl : k = 10 := by omega
   have d1 : decide (((10 : Nat) : Int) < 10) = false := by decide
   rw [padL_ten] at ho
   have HP := Lib.hid fun w => lplus_any ((List.range 10).map (negO a)) oneL (by simp) rfl (neg_lt a) (by decide) w
   obtain ⟨d0, e1, e2, e3, e4, e5, e6, e7, e8, e9, hten⟩ := ten ((List.range 10).map (negO a)) (by simp)
   have HT1 := Lib.hid hten
   rw [hten] at ho HP
   obtain ⟨f0, f1, f2, f3, f4, f5, f6, f7, f8, f9, hten2⟩ := ten ((List.range 10).map (plusO [d0, e1, e2, e3, e4, e5, e6, e7, e8, e9] oneL)) (by simp)
   have HT2 := Lib.hid hten2
   rw [hten2, show arrL [f0, f1, f2, f3, f4, f5, f6, f7, f8, f9] = #[.int .i64 (f0 : Int), .int .i64 (f1 : Int), .int .i64 (f2 : Int), .int .i64 (f3 : Int), .int .i64 (f4 : Int), .int .i64 (f5 : Int), .int .i64 (f6 : Int), .int .i64 (f7 : Int), .int .i64 (f8 : Int), .int .i64 (f9 : Int)] from rfl] at HP
   have hx : wr.heap[w.heap.size + 1 + 1]? = some (Obj.cells #[.int .i64 (d0 : Int), .int .i64 (e1 : Int), .int .i64 (e2 : Int), .int .i64 (e3 : Int), .int .i64 (e4 : Int), .int .i64 (e5 : Int), .int .i64 (e6 : Int), .int .i64 (e7 : Int), .int .i64 (e8 : Int), .int .i64 (e9 : Int)] 93 (0, 0)) := ho
   have c0 := cell_of_heap hx 0 _ rfl
   have c1 := cell_of_heap hx 1 _ rfl
   have c2 := cell_of_heap hx 2 _ rfl
   have c3 := cell_of_heap hx 3 _ rfl
   have c4 := cell_of_heap hx 4 _ rfl
   have c5 := cell_of_heap hx 5 _ rfl
   have c6 := cell_of_heap hx 6 _ rfl
   have c7 := cell_of_heap hx 7 _ rfl
   have c8 := cell_of_heap hx 8 _ rfl
   have c9 := cell_of_heap hx 9 _ rfl
   have lx := lt_of_block hx
   have l2 := lt_of_block h3
   have HH := Lib.hid (And.intro h3 hB)
   clear ho hx h1 h3 hB hten hten2 xa xr xo kW
   go_wp2_with fail
   refine (HP.out _).mono ?_
   rintro e w5 ⟨rfl, hb5⟩
   have hz5 := hb5.size
   simp at hz5
   have h35 : w5.heap[w.heap.size + 1]? = some (Obj.cells #[.int .i64 0, .int .i64 0, .int .i64 0, .int .i64 0, .int .i64 0, .int .i64 0, .int .i64 0, .int .i64 0, .int .i64 0, .int .i64 0] 93 (0, 0)) := (hb5.block _ (by simp; omega)).trans (by
    have h3 := HH.out.1
    repeat' (first | assumption | (with_reducible refine heap_alloc_under _ ?_) | (with_reducible refine (heap_setCell_other _ _ _ _ ?_).trans ?_) | (dsimp only; omega)))
   have hB5 : Below w.heap.size w w5 := HH.out.2.trans (Below.mono (B := wr.heap.size) (by
    refine Below.trans ?_ (hb5.mono (by simp))
    repeat' (first | exact Below.refl _ _ | refine Below.setCell ?_ (Nat.le_refl _) _ | refine Below.alloc ?_ (by simp) _)) HH.out.2.size)
   have z0 := cell_of_heap h35 0 _ rfl
   have z1 := cell_of_heap h35 1 _ rfl
   have z2 := cell_of_heap h35 2 _ rfl
   have z3 := cell_of_heap h35 3 _ rfl
   have z4 := cell_of_heap h35 4 _ rfl
   have z5 := cell_of_heap h35 5 _ rfl
   have z6 := cell_of_heap h35 6 _ rfl
   have z7 := cell_of_heap h35 7 _ rfl
   have z8 := cell_of_heap h35 8 _ rfl
   have z9 := cell_of_heap h35 9 _ rfl
   have fz : ∀ o, w5.frozen? ⟨w.heap.size + 1, o, none⟩ = false := fun o => by simp [World.frozen?, h35]
   have HF := Lib.hid (And.intro (set10 h35 (.int .i64 (f0 : Int)) (.int .i64 (f1 : Int)) (.int .i64 (f2 : Int)) (.int .i64 (f3 : Int)) (.int .i64 (f4 : Int)) (.int .i64 (f5 : Int)) (.int .i64 (f6 : Int)) (.int .i64 (f7 : Int)) (.int .i64 (f8 : Int)) (.int .i64 (f9 : Int))) (below10 hB5 (b := w.heap.size + 1) (by omega) (.int .i64 (f0 : Int)) (.int .i64 (f1 : Int)) (.int .i64 (f2 : Int)) (.int .i64 (f3 : Int)) (.int .i64 (f4 : Int)) (.int .i64 (f5 : Int)) (.int .i64 (f6 : Int)) (.int .i64 (f7 : Int)) (.int .i64 (f8 : Int)) (.int .i64 (f9 : Int))))
   have l5 := lt_of_block h35
   clear h35 hB5 hb5 HH HP c0 c1 c2 c3 c4 c5 c6 c7 c8 c9
   go_wp2_with fail
   obtain ⟨hF, hBF⟩ := HF.out
   obtain ⟨V, hV⟩ : ∃ V, ((((((((((w5.setCell ⟨w.heap.size + 1, 0, none⟩ (.int .i64 (f0 : Int))).setCell ⟨w.heap.size + 1, 1, none⟩ (.int .i64 (f1 : Int))).setCell ⟨w.heap.size + 1, 2, none⟩ (.int .i64 (f2 : Int))).setCell ⟨w.heap.size + 1, 3, none⟩ (.int .i64 (f3 : Int))).setCell ⟨w.heap.size + 1, 4, none⟩ (.int .i64 (f4 : Int))).setCell ⟨w.heap.size + 1, 5, none⟩ (.int .i64 (f5 : Int))).setCell ⟨w.heap.size + 1, 6, none⟩ (.int .i64 (f6 : Int))).setCell ⟨w.heap.size + 1, 7, none⟩ (.int .i64 (f7 : Int))).setCell ⟨w.heap.size + 1, 8, none⟩ (.int .i64 (f8 : Int))).setCell ⟨w.heap.size + 1, 9, none⟩ (.int .i64 (f9 : Int))) = V := ⟨_, rfl⟩
   rw [hV] at hF hBF ⊢
   have r0 := cell_of_heap hF 0 _ rfl
   have r1 := cell_of_heap hF 1 _ rfl
   have r2 := cell_of_heap hF 2 _ rfl
   have r3 := cell_of_heap hF 3 _ rfl
   have r4 := cell_of_heap hF 4 _ rfl
   have r5 := cell_of_heap hF 5 _ rfl
   have r6 := cell_of_heap hF 6 _ rfl
   have r7 := cell_of_heap hF 7 _ rfl
   have r8 := cell_of_heap hF 8 _ rfl
   have r9 := cell_of_heap hF 9 _ rfl
   exact bodyPost_ret (v := .agg #[.int .i64 (f0 : Int), .int .i64 (f1 : Int), .int .i64 (f2 : Int), .int .i64 (f3 : Int), .int .i64 (f4 : Int), .int .i64 (f5 : Int), .int .i64 (f6 : Int), .int .i64 (f7 : Int), .int .i64 (f8 : Int), .int .i64 (f9 : Int)]) (by simp [results, Tryz.results44, go_sem, r0, r1, r2, r3, r4, r5, r6, r7, r8, r9]) rfl ⟨by unfold minusL; rw [HT1.out, HT2.out]; rfl, hBF⟩
end Go.Proofs.YtbhppbeepmllaaaGreatDoor

namespace Go.Proofs.YtbhppbeepmllaaaGreatDoor
open Go.RowKit

theorem div64_ten (x : Nat) (hx : x < 9223372036854775808) (w : World) : Calls Tryz.prog 129 #[.int .u64 0, .int .u64 x, .int .u64 10] w fun e w' => e = .returned (.tuple #[.int .u64 ((x / 10 : Nat) : Int), .int .u64 ((x % 10 : Nat) : Int)]) ∧ Below w.heap.size w w' := by
 have e1 : IntKind.u64.wrap ((x : Int).tdiv 10) = ((x / 10 : Nat) : Int) := by rw [Int.tdiv_eq_ediv_of_nonneg (by omega), IntKind.wrap_u64]; omega
 have e2 : IntKind.u64.wrap ((x : Int).tmod 10) = ((x % 10 : Nat) : Int) := by rw [Int.tmod_eq_emod_of_nonneg (by omega), IntKind.wrap_u64]; omega
 go_enter Tryz.func129, Tryz.ntmps129
 go_wp2
 go_quiet (fail)
 go_wp2
 go_ret2
 exact ⟨by simp [e1, e2], below_drewN (Below.refl _ _) _⟩
theorem wsize_pos (n : Nat) (hn : n < 9223372036854775808) (w : World) : Calls Tryz.prog 128 #[.agg #[.int .i64 0, .int .u64 n]] w fun e w' => e = .returned (.tuple #[.int .u64 0, .int .u64 n]) ∧ Below w.heap.size w w' := by
 have hb0 : Below w.heap.size w (w.alloc (.cells #[.int .i64 0, .int .u64 n] 188)) := (Below.refl _ _).alloc (Nat.le_refl _) _
 have HB := Lib.hid hb0
 clear hb0
 go_enter Tryz.func128, Tryz.ntmps128
 go_wp2
 go_quiet (fail)
 go_wp2
 go_ret2
 exact ⟨rfl, below_drewN HB.out _⟩
theorem wsize_neg (n : Nat) (h1 : 1 ≤ n) (hn : n < 9223372036854775808) (w : World) : Calls Tryz.prog 128 #[.agg #[.int .i64 (-1), .int .u64 (-(n : Int) + 18446744073709551616)]] w fun e w' => e = .returned (.tuple #[.int .u64 0, .int .u64 n]) ∧ Below w.heap.size w w' := by
 have hb0 : Below w.heap.size w (w.alloc (.cells #[.int .i64 (-1), .int .u64 (-(n : Int) + 18446744073709551616)] 188)) := (Below.refl _ _).alloc (Nat.le_refl _) _
 have HB := Lib.hid hb0
 have e1 : IntKind.u64.wrap (-(-(n : Int) + 18446744073709551616)) = n := by rw [IntKind.wrap_u64]; omega
 have e2 : ((n : Int) == 0) = false := by simp; omega
 clear hb0
 go_enter Tryz.func128, Tryz.ntmps128
 go_wp2
 go_quiet (fail)
 go_wp2
 go_ret2
 exact ⟨rfl, below_drewN HB.out _⟩
theorem bc_at (l : List UInt8) (k : Nat) (p : UInt8) (h : l[k]? = some p) : (Lib.byteCells l)[k]? = some (.int .u8 p.toNat) := by
 simp [Lib.byteCells, h]
theorem bc_set (l : List UInt8) (k : Nat) (p : UInt8) : (Lib.byteCells l).set k (.int .u8 p.toNat) = Lib.byteCells (l.set k p) := by
 simp [Lib.byteCells, List.map_set]
def revB (l : List UInt8) : Nat → List UInt8
 | 0 => l
 | k + 1 => ((revB l k).set k ((revB l k).getD (l.length - 1 - k) 0)).set (l.length - 1 - k) ((revB l k).getD k 0)
theorem revB_len (l : List UInt8) (k : Nat) : (revB l k).length = l.length := by
 induction k with
 | zero => rfl
 | succ k ih => simp [revB, ih]
theorem revB_at (l : List UInt8) (k : Nat) (hk : 2 * k ≤ l.length) (i : Nat) (hi : i < l.length) : (revB l k)[i]? = if i < k ∨ l.length - 1 - k < i then l[l.length - 1 - i]? else l[i]? := by
 induction k generalizing i with
 | zero =>
  rw [if_neg (by omega)]; rfl
 | succ k ih =>
  have h1 := ih (by omega) k (by omega)
  have h2 := ih (by omega) (l.length - 1 - k) (by omega)
  rw [if_neg (by omega)] at h1 h2
  have g1 : (revB l k).getD k 0 = (l[k]?).getD 0 := by rw [List.getD, h1]
  have g2 : (revB l k).getD (l.length - 1 - k) 0 = (l[l.length - 1 - k]?).getD 0 := by rw [List.getD, h2]
  have ek : l[k]? = some ((l[k]?).getD 0) := by rw [List.getElem?_eq_getElem (by omega)]; rfl
  have ej : l[l.length - 1 - k]? = some ((l[l.length - 1 - k]?).getD 0) := by rw [List.getElem?_eq_getElem (by omega)]; rfl
  unfold revB
  rw [List.getElem?_set, List.getElem?_set, g1, g2]
  simp only [List.length_set, revB_len]
  by_cases c1 : l.length - 1 - k = i
  ·subst c1
   rw [if_pos rfl, if_pos hi, if_pos (by omega), ← ek]
   congr 1; omega
  ·rw [if_neg c1]
   by_cases c2 : k = i
   ·subst c2
    rw [if_pos rfl, if_pos hi, if_pos (by omega), ← ej]
   ·rw [if_neg c2, ih (by omega) i hi]
    by_cases c3 : i < k ∨ l.length - 1 - k < i
    ·rw [if_pos c3, if_pos (by omega)]
    ·rw [if_neg c3, if_neg (by omega)]
theorem revB_any (l : List UInt8) (g cap : Nat) (w : World) (hn : 0 < l.length) (hn2 : l.length ≤ 1000000) (hx : w.ownsRow 0 5 1 (.slice (some ⟨g, 0, none⟩) l.length cap) l.length (Lib.byteCells l)) :
  Calls Tryz.prog 171 #[.slice (some ⟨g, 0, none⟩) l.length cap] w fun e w' => e = .returned (.tuple #[]) ∧ w'.ownsRow 0 5 1 (.slice (some ⟨g, 0, none⟩) l.length cap) l.length (Lib.byteCells l.reverse) ∧ w.grownBy w' (some g) := by
 obtain ⟨n, hN⟩ : ∃ n, l.length = n + 1 := ⟨l.length - 1, by omega⟩
 have HN := Lib.hid hN
 have u1 : IntKind.i64.wrap ((n : Int) + 1 - 1) = n := by rw [IntKind.wrap_i64]; omega
 have u2 : wrap64 (n : Int) = n := IntWalk.wrap64_in _ (by omega)
 rw [hN] at hx hn hn2 ⊢
 clear hN
 go_enter Tryz.func171, Tryz.ntmps171
 go_wp2
 go_loopw [2, 3] (fun i j wr => ∃ k : Nat, 2 * k ≤ n + 1 ∧ i = .int .i64 k ∧ j = .int .i64 ((n - k : Nat) : Int) ∧ wr.ownsRow 0 5 1 (.slice (some ⟨g, 0, none⟩) (n + 1) cap) (n + 1) (Lib.byteCells (revB l k)) ∧ w.grownBy wr (some g)) (fun i j _ => n - (intOf i).toNat)
 case atStart => exact ⟨0, by omega, rfl, by simp, hx, grown_of_below (Below.refl _ _) _⟩
 case round =>
  obtain ⟨k, hk, rfl, rfl, hO, hG⟩ := hrel
  have hle : ((n - k : Nat) : Int) = (n : Int) - k := by omega
  by_cases hlt : 2 * k < n
  ·have hll : (revB l k).length = n + 1 := by rw [revB_len]; exact HN.out
   have h1 : (revB l k)[k]? = some ((revB l k).getD k 0) := by rw [List.getD, List.getElem?_eq_getElem (by omega)]; rfl
   have h2 : (revB l k)[n - k]? = some ((revB l k).getD (n - k) 0) := by rw [List.getD, List.getElem?_eq_getElem (by omega)]; rfl
   have hrs : revB l (k + 1) = ((revB l k).set k ((revB l k).getD (n - k) 0)).set (n - k) ((revB l k).getD k 0) := by
    rw [revB, HN.out, show n + 1 - 1 - k = n - k by omega]
   generalize (revB l k).getD k 0 = p at *
   generalize (revB l k).getD (n - k) 0 = q at *
   obtain ⟨m, hm⟩ : ∃ m, n - k = m := ⟨_, rfl⟩
   rw [hm] at h2 hrs hle ⊢
   have a1 := bc_at _ _ _ h1
   have b1 := bc_at _ _ _ h2
   have c1 := (hO.cellAt k (by omega)).trans a1
   have d1 := (hO.cellAt m (by omega)).trans b1
   have hlg := ints_lt2 hO
   have HRS := Lib.hid hrs; have HLE := Lib.hid hle
   have hkm : (k : Int) < (m : Int) := by omega
   have hmn : m < n + 1 := by omega
   have hkn : k < n + 1 := by omega
   have hkm2 : k < m := by omega
   clear h1 h2 hrs hle hm
   go_wp2_with fail
   refine wp_region_mixA wr.heap.size [0, 1, 2, 3, 4, 5, 6, 7, 8, 9, 10, 11] [12, 13, 14, 15] (by kernel_rfl) (by kernel_rfl) rfl ?_
   simp only [opsAt, List.map_cons, List.map_nil, List.getElem?_toArray, List.getElem?_cons_zero, List.getElem?_cons_succ, Option.getD_some]
   have zc1 := fun k : After wr.heap.size wr => k.cell (hlg) c1
   have zd1 := fun k : After wr.heap.size wr => k.cell (hlg) d1
   repeat (go_big_quiet_step (fail))
   refine wpQuiet_nil ?_
   intro kk
   unfold calmQ
   have kb := kk.h
   clear zc1 zd1
   obtain ⟨w2, hw1⟩ : ∃ w2, kk.w = w2 := ⟨_, rfl⟩
   rw [hw1] at kb
   rw [hw1]
   clear hw1
   have hO2 := hO.kept (grown_of_below kb none) (by simp [Value.ownBlock])
   have c1' := (kb.cell (p := ⟨g, k, none⟩) hlg).trans c1
   have d1' := (kb.cell (p := ⟨g, m, none⟩) hlg).trans d1
   have f1 := fun j => hO2.frozenAt j
   clear c1 d1 a1 b1
   go_wp2_with fail
   go_roundw
   case rel =>
    have hm := HLE.out
    have h1 := hO2.stored k (.int .u8 q.toNat)
    have h2 := h1.1.stored m (.int .u8 p.toNat)
    have hown := h2.1
    rw [bc_set, bc_set, ← HRS.out] at hown
    exact ⟨k + 1, by omega, by go_num, by congr 1; omega, hown, grown_trans (grown_trans (grown_below hG kb hG.size) h1.2) h2.2⟩
   case measure => simp [intOf]; omega
  ·have hle2 : ¬ ((k : Int) < ((n - k : Nat) : Int)) := by omega
   go_wp2
   go_end0
   have e : revB l k = l.reverse := by
    have h1 := HN.out
    apply List.ext_getElem?
    intro i
    by_cases hi : i < l.length
    ·rw [revB_at l _ (by omega) i hi, List.getElem?_reverse hi]
     by_cases c : i < k ∨ l.length - 1 - k < i
     ·rw [if_pos c]
     ·rw [if_neg c]
      congr 1
      omega
    ·rw [List.getElem?_eq_none (by rw [revB_len]; omega), List.getElem?_eq_none (by simp; omega)]
   rw [e] at hO
   exact ⟨rfl, hO, hG⟩
end Go.Proofs.YtbhppbeepmllaaaGreatDoor
