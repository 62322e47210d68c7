import Derived.Test.YtbhppbeepmllaaaGreatDoorMeaa18af4
import Derived.Test.YtbhppbeepmllaaaGreatDoorMac2c1014
set_option linter.unusedVariables false
set_option linter.unusedSimpArgs false
set_option maxRecDepth 100000
set_option maxHeartbeats 2000000
namespace Go.Proofs.YtbhppbeepmllaaaGreatDoor
open Go.RowKit

theorem mulQ (a b : Int) (h0 : -2147483648 ≤ a) (h1 : a ≤ 2147483648) (h2 : -2147483648 ≤ b) (h3 : b ≤ 2147483648) : -4611686018427387904 ≤ a * b ∧ a * b ≤ 4611686018427387904 := by
 have e : ((a * b).natAbs : Int) = a.natAbs * b.natAbs := by rw [Int.natAbs_mul, Int.natCast_mul]
 have m : a.natAbs * b.natAbs ≤ 2147483648 * 2147483648 := Nat.mul_le_mul (by omega) (by omega)
 omega

theorem words (p k : Int) (n : Nat) (h0 : -4611686018427387904 ≤ p) (h1 : p ≤ 4611686018427387904) (hn : (n : Int) = p + k * 18446744073709551616) :
  ((n / 18446744073709551616 : Nat) : Int) = k + wvh p ∧ ((n % 18446744073709551616 : Nat) : Int) = wvl p := by
 rw [Int.natCast_ediv, Int.natCast_emod, hn]
 unfold wvh wvl
 split <;> omega

theorem times_pp (a b : Int) (w : World) (h0 : -2147483648 ≤ a) (h1 : a ≤ 2147483648) (h2 : -2147483648 ≤ b) (h3 : b ≤ 2147483648) (ha : 0 ≤ a) (hb : 0 ≤ b) :
  Calls Tryz.prog 235 #[.int .i64 a, .int .i64 b] w fun e w' => e = .returned (wv (a * b)) ∧ Below w.heap.size w w' := by
 have hp := mulQ a b h0 h1 h2 h3
 obtain ⟨x, hx⟩ := Int.eq_ofNat_of_zero_le (show 0 ≤ a by omega)
 obtain ⟨y, hy⟩ := Int.eq_ofNat_of_zero_le (show 0 ≤ b by omega)
 have hxy : ((x * y : Nat) : Int) = a * b + (0) * 18446744073709551616 := by
  rw [Int.natCast_mul, ← hx, ← hy]
  first | omega | (simp only [Int.add_mul, Int.mul_add] <;> omega)
 have hw := words (a * b) (0) (x * y) hp.1 hp.2 hxy
 have HM := Lib.hid fun w => Tryz.bits_Mul64 x y (by omega) (by omega) w
 rw [wv_eq]
 obtain ⟨p, hpp⟩ : ∃ p, a * b = p := ⟨_, rfl⟩
 rw [hpp] at hw hp ⊢
 obtain ⟨h, hh⟩ : ∃ h, x * y / 18446744073709551616 = h := ⟨_, rfl⟩
 obtain ⟨l, hl⟩ : ∃ l, x * y % 18446744073709551616 = l := ⟨_, rfl⟩
 rw [hh, hl] at HM hw
 have ux : IntKind.u64.wrap a = (x : Int) := by rw [IntKind.wrap_u64]; omega
 have uy : IntKind.u64.wrap b = (y : Int) := by rw [IntKind.wrap_u64]; omega
 have hv : wvh p = 0 ∨ wvh p = -1 := by unfold wvh; split <;> simp
 have uh : IntKind.i64.wrap ((h : Int)) = wvh p := by
  simp only [IntKind.wrap_i64, IntKind.wrap_u64]; omega
 have ul : (l : Int) = wvl p := hw.2
 have UL := Lib.hid ul
 clear hw hh hl hxy hpp hv hp hx hy ul
 go_enter Tryz.func235, Tryz.ntmps235
 go_wp2_with fail
 refine (HM.out _).mono ?_
 rintro e w1 ⟨rfl, rfl⟩
 go_wp2
 rw [← UL.out]
 exact bodyPost_ret (v := .agg #[.int .i64 (wvh p), .int .u64 l]) (by simp [results, Tryz.results235, go_sem]) rfl ⟨rfl, by
  repeat' (first | exact Below.refl _ _ | refine Below.alloc ?_ (by first | exact Nat.le_refl _ | (simp; omega)) _ | refine Below.setCell ?_ (Nat.le_refl _) _)⟩
theorem times_np (a b : Int) (w : World) (h0 : -2147483648 ≤ a) (h1 : a ≤ 2147483648) (h2 : -2147483648 ≤ b) (h3 : b ≤ 2147483648) (ha : a < 0) (hb : 0 ≤ b) :
  Calls Tryz.prog 235 #[.int .i64 a, .int .i64 b] w fun e w' => e = .returned (wv (a * b)) ∧ Below w.heap.size w w' := by
 have hp := mulQ a b h0 h1 h2 h3
 obtain ⟨x, hx⟩ := Int.eq_ofNat_of_zero_le (show 0 ≤ a + 18446744073709551616 by omega)
 obtain ⟨y, hy⟩ := Int.eq_ofNat_of_zero_le (show 0 ≤ b by omega)
 have hxy : ((x * y : Nat) : Int) = a * b + (b) * 18446744073709551616 := by
  rw [Int.natCast_mul, ← hx, ← hy]
  first | omega | (simp only [Int.add_mul, Int.mul_add] <;> omega)
 have hw := words (a * b) (b) (x * y) hp.1 hp.2 hxy
 have HM := Lib.hid fun w => Tryz.bits_Mul64 x y (by omega) (by omega) w
 rw [wv_eq]
 obtain ⟨p, hpp⟩ : ∃ p, a * b = p := ⟨_, rfl⟩
 rw [hpp] at hw hp ⊢
 obtain ⟨h, hh⟩ : ∃ h, x * y / 18446744073709551616 = h := ⟨_, rfl⟩
 obtain ⟨l, hl⟩ : ∃ l, x * y % 18446744073709551616 = l := ⟨_, rfl⟩
 rw [hh, hl] at HM hw
 have ux : IntKind.u64.wrap a = (x : Int) := by rw [IntKind.wrap_u64]; omega
 have uy : IntKind.u64.wrap b = (y : Int) := by rw [IntKind.wrap_u64]; omega
 have hv : wvh p = 0 ∨ wvh p = -1 := by unfold wvh; split <;> simp
 have uh : IntKind.i64.wrap (IntKind.u64.wrap ((h : Int) - y)) = wvh p := by
  simp only [IntKind.wrap_i64, IntKind.wrap_u64]; omega
 have ul : (l : Int) = wvl p := hw.2
 have UL := Lib.hid ul
 clear hw hh hl hxy hpp hv hp hx hy ul
 go_enter Tryz.func235, Tryz.ntmps235
 go_wp2_with fail
 refine (HM.out _).mono ?_
 rintro e w1 ⟨rfl, rfl⟩
 go_wp2
 rw [← UL.out]
 exact bodyPost_ret (v := .agg #[.int .i64 (wvh p), .int .u64 l]) (by simp [results, Tryz.results235, go_sem]) rfl ⟨rfl, by
  repeat' (first | exact Below.refl _ _ | refine Below.alloc ?_ (by first | exact Nat.le_refl _ | (simp; omega)) _ | refine Below.setCell ?_ (Nat.le_refl _) _)⟩
theorem times_pn (a b : Int) (w : World) (h0 : -2147483648 ≤ a) (h1 : a ≤ 2147483648) (h2 : -2147483648 ≤ b) (h3 : b ≤ 2147483648) (ha : 0 ≤ a) (hb : b < 0) :
  Calls Tryz.prog 235 #[.int .i64 a, .int .i64 b] w fun e w' => e = .returned (wv (a * b)) ∧ Below w.heap.size w w' := by
 have hp := mulQ a b h0 h1 h2 h3
 obtain ⟨x, hx⟩ := Int.eq_ofNat_of_zero_le (show 0 ≤ a by omega)
 obtain ⟨y, hy⟩ := Int.eq_ofNat_of_zero_le (show 0 ≤ b + 18446744073709551616 by omega)
 have hxy : ((x * y : Nat) : Int) = a * b + (a) * 18446744073709551616 := by
  rw [Int.natCast_mul, ← hx, ← hy]
  first | omega | (simp only [Int.add_mul, Int.mul_add] <;> omega)
 have hw := words (a * b) (a) (x * y) hp.1 hp.2 hxy
 have HM := Lib.hid fun w => Tryz.bits_Mul64 x y (by omega) (by omega) w
 rw [wv_eq]
 obtain ⟨p, hpp⟩ : ∃ p, a * b = p := ⟨_, rfl⟩
 rw [hpp] at hw hp ⊢
 obtain ⟨h, hh⟩ : ∃ h, x * y / 18446744073709551616 = h := ⟨_, rfl⟩
 obtain ⟨l, hl⟩ : ∃ l, x * y % 18446744073709551616 = l := ⟨_, rfl⟩
 rw [hh, hl] at HM hw
 have ux : IntKind.u64.wrap a = (x : Int) := by rw [IntKind.wrap_u64]; omega
 have uy : IntKind.u64.wrap b = (y : Int) := by rw [IntKind.wrap_u64]; omega
 have hv : wvh p = 0 ∨ wvh p = -1 := by unfold wvh; split <;> simp
 have uh : IntKind.i64.wrap (IntKind.u64.wrap ((h : Int) - x)) = wvh p := by
  simp only [IntKind.wrap_i64, IntKind.wrap_u64]; omega
 have ul : (l : Int) = wvl p := hw.2
 have UL := Lib.hid ul
 clear hw hh hl hxy hpp hv hp hx hy ul
 go_enter Tryz.func235, Tryz.ntmps235
 go_wp2_with fail
 refine (HM.out _).mono ?_
 rintro e w1 ⟨rfl, rfl⟩
 go_wp2
 rw [← UL.out]
 exact bodyPost_ret (v := .agg #[.int .i64 (wvh p), .int .u64 l]) (by simp [results, Tryz.results235, go_sem]) rfl ⟨rfl, by
  repeat' (first | exact Below.refl _ _ | refine Below.alloc ?_ (by first | exact Nat.le_refl _ | (simp; omega)) _ | refine Below.setCell ?_ (Nat.le_refl _) _)⟩
theorem times_nn (a b : Int) (w : World) (h0 : -2147483648 ≤ a) (h1 : a ≤ 2147483648) (h2 : -2147483648 ≤ b) (h3 : b ≤ 2147483648) (ha : a < 0) (hb : b < 0) :
  Calls Tryz.prog 235 #[.int .i64 a, .int .i64 b] w fun e w' => e = .returned (wv (a * b)) ∧ Below w.heap.size w w' := by
 have hp := mulQ a b h0 h1 h2 h3
 obtain ⟨x, hx⟩ := Int.eq_ofNat_of_zero_le (show 0 ≤ a + 18446744073709551616 by omega)
 obtain ⟨y, hy⟩ := Int.eq_ofNat_of_zero_le (show 0 ≤ b + 18446744073709551616 by omega)
 have hxy : ((x * y : Nat) : Int) = a * b + (a + b + 18446744073709551616) * 18446744073709551616 := by
  rw [Int.natCast_mul, ← hx, ← hy]
  first | omega | (simp only [Int.add_mul, Int.mul_add] <;> omega)
 have hw := words (a * b) (a + b + 18446744073709551616) (x * y) hp.1 hp.2 hxy
 have HM := Lib.hid fun w => Tryz.bits_Mul64 x y (by omega) (by omega) w
 rw [wv_eq]
 obtain ⟨p, hpp⟩ : ∃ p, a * b = p := ⟨_, rfl⟩
 rw [hpp] at hw hp ⊢
 obtain ⟨h, hh⟩ : ∃ h, x * y / 18446744073709551616 = h := ⟨_, rfl⟩
 obtain ⟨l, hl⟩ : ∃ l, x * y % 18446744073709551616 = l := ⟨_, rfl⟩
 rw [hh, hl] at HM hw
 have ux : IntKind.u64.wrap a = (x : Int) := by rw [IntKind.wrap_u64]; omega
 have uy : IntKind.u64.wrap b = (y : Int) := by rw [IntKind.wrap_u64]; omega
 have hv : wvh p = 0 ∨ wvh p = -1 := by unfold wvh; split <;> simp
 have uh : IntKind.i64.wrap (IntKind.u64.wrap (IntKind.u64.wrap ((h : Int) - y) - x)) = wvh p := by
  simp only [IntKind.wrap_i64, IntKind.wrap_u64]; omega
 have ul : (l : Int) = wvl p := hw.2
 have UL := Lib.hid ul
 clear hw hh hl hxy hpp hv hp hx hy ul
 go_enter Tryz.func235, Tryz.ntmps235
 go_wp2_with fail
 refine (HM.out _).mono ?_
 rintro e w1 ⟨rfl, rfl⟩
 go_wp2
 rw [← UL.out]
 exact bodyPost_ret (v := .agg #[.int .i64 (wvh p), .int .u64 l]) (by simp [results, Tryz.results235, go_sem]) rfl ⟨rfl, by
  repeat' (first | exact Below.refl _ _ | refine Below.alloc ?_ (by first | exact Nat.le_refl _ | (simp; omega)) _ | refine Below.setCell ?_ (Nat.le_refl _) _)⟩
end Go.Proofs.YtbhppbeepmllaaaGreatDoor

namespace Go.Proofs.YtbhppbeepmllaaaGreatDoor
open Go.RowKit

theorem times_any (a b : Int) (w : World) (h0 : -2147483648 ≤ a) (h1 : a ≤ 2147483648) (h2 : -2147483648 ≤ b) (h3 : b ≤ 2147483648) :
  Calls Tryz.prog 235 #[.int .i64 a, .int .i64 b] w fun e w' => e = .returned (wv (a * b)) ∧ Below w.heap.size w w' := by
 by_cases ha : 0 ≤ a <;> by_cases hb : 0 ≤ b
 ·exact times_pp a b w h0 h1 h2 h3 ha hb
 ·exact times_pn a b w h0 h1 h2 h3 ha (by omega)
 ·exact times_np a b w h0 h1 h2 h3 (by omega) hb
 ·exact times_nn a b w h0 h1 h2 h3 (by omega) (by omega)

def dotK (xs ys : List Int) (k : Nat) : Int := sumI ((zipI (· * ·) xs ys).take k)
theorem dotK_succ (xs ys : List Int) (k : Nat) (x y : Int) (hx : xs[k]? = some x) (hy : ys[k]? = some y) : dotK xs ys (k + 1) = dotK xs ys k + x * y := by
 unfold dotK
 have h : (zipI (· * ·) xs ys)[k]? = some (x * y) := by simp [zipI, List.getElem?_zipWith, hx, hy]
 rw [take_snoc' h, sumI_snoc]

structure Box2 (w : World) (b : Nat) (v0 v1 : Value) (t : TypeId) : Prop where
 hd : w.heap[b]? = some (.cells #[v0, v1] t (0, 0))
theorem Box2.facts {w : World} {b : Nat} {v0 v1 : Value} {t : TypeId} (h : Box2 w b v0 v1 t) : w.cell? ⟨b, 0, none⟩ = some v0 ∧ w.cell? ⟨b, 1, none⟩ = some v1 ∧ w.frozen? ⟨b, 0, none⟩ = false ∧ w.frozen? ⟨b, 1, none⟩ = false ∧ b < w.heap.size := by
 have h1 := h.hd
 exact ⟨by simp [World.cell?, h1], by simp [World.cell?, h1], by simp [World.frozen?, h1], by simp [World.frozen?, h1], lt_of_block h1⟩
theorem Box2.new {W w5 : World} {v0 v1 : Value} {t : TypeId} (h : Below (W.alloc (.cells #[v0, v1] t)).heap.size (W.alloc (.cells #[v0, v1] t)) w5) : Box2 w5 W.heap.size v0 v1 t := ⟨(h.block _ (by simp)).trans (heap_alloc_at _ rfl)⟩
theorem Box2.newd {W w5 : World} {v0 v1 : Value} {t : TypeId} (h : Below ((W.alloc (.cells #[v0, v1] t)).drew).heap.size ((W.alloc (.cells #[v0, v1] t)).drew) w5) : Box2 w5 W.heap.size v0 v1 t := ⟨(h.block _ (by simp)).trans (heap_alloc_at _ rfl)⟩
theorem Box2.old {w w' : World} {b : Nat} {v0 v1 : Value} {t : TypeId} (h : Box2 w b v0 v1 t) (k : Below w.heap.size w w') : Box2 w' b v0 v1 t := ⟨(k.block _ (lt_of_block h.hd)).trans h.hd⟩
theorem endA {w w6 : World} {o0 : Obj} {p q : Value} {t : TypeId} (hB : Below w.heap.size w w6) (h0 : w6.heap[w.heap.size]? = some o0) (hT : w6.heap[w.heap.size + 1]? = some (.cells #[p, q] t (0, 0))) (u v : Value) (o : Obj) :
  (((w6.setCell ⟨w.heap.size + 1, 0, none⟩ u).setCell ⟨w.heap.size + 1, 1, none⟩ v).alloc o).heap[w.heap.size]? = some o0 ∧
  (((w6.setCell ⟨w.heap.size + 1, 0, none⟩ u).setCell ⟨w.heap.size + 1, 1, none⟩ v).alloc o).heap[w.heap.size + 1]? = some (.cells #[u, v] t (0, 0)) ∧
  Below w.heap.size w (((w6.setCell ⟨w.heap.size + 1, 0, none⟩ u).setCell ⟨w.heap.size + 1, 1, none⟩ v).alloc o) :=
 ⟨heap_alloc_under _ ((heap_setCell_other _ _ _ _ (by simp)).trans ((heap_setCell_other _ _ _ _ (by simp)).trans h0)), heap_alloc_under _ (two_set hT _ _),
  ((hB.setCell (by simp) _).setCell (by simp) _).alloc (by have := hB.size; simp; omega) _⟩
theorem endB {w w6 : World} {o0 : Obj} {p q : Value} {t : TypeId} {b : Nat} (hB : Below w.heap.size w w6) (h0 : w6.heap[w.heap.size]? = some o0) (hT : w6.heap[w.heap.size + 1]? = some (.cells #[p, q] t (0, 0))) (hb : w.heap.size + 1 < b) (u v u' v' : Value) :
  ((((w6.setCell ⟨b, 0, none⟩ u').setCell ⟨b, 1, none⟩ v').setCell ⟨w.heap.size + 1, 0, none⟩ u).setCell ⟨w.heap.size + 1, 1, none⟩ v).heap[w.heap.size]? = some o0 ∧
  ((((w6.setCell ⟨b, 0, none⟩ u').setCell ⟨b, 1, none⟩ v').setCell ⟨w.heap.size + 1, 0, none⟩ u).setCell ⟨w.heap.size + 1, 1, none⟩ v).heap[w.heap.size + 1]? = some (.cells #[u, v] t (0, 0)) ∧
  Below w.heap.size w ((((w6.setCell ⟨b, 0, none⟩ u').setCell ⟨b, 1, none⟩ v').setCell ⟨w.heap.size + 1, 0, none⟩ u).setCell ⟨w.heap.size + 1, 1, none⟩ v) := by
 have hB2 : Below w.heap.size w ((w6.setCell ⟨b, 0, none⟩ u').setCell ⟨b, 1, none⟩ v') := (hB.setCell (by show w.heap.size ≤ b; omega) _).setCell (by show w.heap.size ≤ b; omega) _
 have h02 : ((w6.setCell ⟨b, 0, none⟩ u').setCell ⟨b, 1, none⟩ v').heap[w.heap.size]? = some o0 := (heap_setCell_other _ _ _ _ (by show _ ≠ b; omega)).trans ((heap_setCell_other _ _ _ _ (by show _ ≠ b; omega)).trans h0)
 have hT2 : ((w6.setCell ⟨b, 0, none⟩ u').setCell ⟨b, 1, none⟩ v').heap[w.heap.size + 1]? = some (.cells #[p, q] t (0, 0)) := (heap_setCell_other _ _ _ _ (by show _ ≠ b; omega)).trans ((heap_setCell_other _ _ _ _ (by show _ ≠ b; omega)).trans hT)
 exact ⟨(heap_setCell_other _ _ _ _ (by simp)).trans ((heap_setCell_other _ _ _ _ (by simp)).trans h02), two_set hT2 _ _, (hB2.setCell (by simp) _).setCell (by simp) _⟩
theorem chainB {w w' w'' : World} {R : Prop} (h : Below w.heap.size w w' ∧ R) (k : Below w'.heap.size w' w'') : Below w.heap.size w w'' := h.1.trans (k.mono h.1.size)
theorem keep4 {W w' : World} (hB : Below W.heap.size W w') {p1 p2 p3 p4 : Addr} {v1 v2 v3 v4 : Value} (h1 : p1.block < W.heap.size) (c1 : W.cell? p1 = some v1) (h2 : p2.block < W.heap.size) (c2 : W.cell? p2 = some v2)
  (h3 : p3.block < W.heap.size) (c3 : W.cell? p3 = some v3) (h4 : p4.block < W.heap.size) (c4 : W.cell? p4 = some v4) : Below W.heap.size W w' ∧ w'.cell? p1 = some v1 ∧ w'.cell? p2 = some v2 ∧ w'.cell? p3 = some v3 ∧ w'.cell? p4 = some v4 :=
 ⟨hB, (hB.cell h1).trans c1, (hB.cell h2).trans c2, (hB.cell h3).trans c3, (hB.cell h4).trans c4⟩

theorem dot_any (xs ys : List Int) (g1 o1 c1 g2 o2 c2 n : Nat) (w : World) (hl1 : xs.length = n) (hl2 : ys.length = n) (hg1 : g1 < w.heap.size) (hg2 : g2 < w.heap.size) (hn : n ≤ 1000000)
  (hx : ∀ (k : Nat) x, xs[k]? = some x → w.cell? ⟨g1, o1 + k, none⟩ = some (.int .i64 x)) (hy : ∀ (k : Nat) y, ys[k]? = some y → w.cell? ⟨g2, o2 + k, none⟩ = some (.int .i64 y))
  (sx : ∀ x ∈ xs, -2147483648 ≤ x ∧ x ≤ 2147483648) (sy : ∀ x ∈ ys, -2147483648 ≤ x ∧ x ≤ 2147483648) (hb : ∀ k, -2305843009213693952 ≤ dotK xs ys k ∧ dotK xs ys k ≤ 2305843009213693952) :
  Calls Tryz.prog 206 #[.slice (some ⟨g1, o1, none⟩) n c1, .slice (some ⟨g2, o2, none⟩) n c2] w fun e w' => e = .returned (.tuple #[wv (dotK xs ys n), .bool true]) ∧ Below w.heap.size w w' := by
 have HX := Lib.hid hx; have HY := Lib.hid hy; have SX := Lib.hid sx; have SY := Lib.hid sy; have HB := Lib.hid hb
 have L1 := Lib.hid hl1; have L2 := Lib.hid hl2
 clear hx hy sx sy hb hl1 hl2
 rw [wv_eq]
 go_enter Tryz.func206, Tryz.ntmps206
 go_wp2_with fail
 go_loopw [19] (fun i wr => ∃ k : Nat, k ≤ n ∧ i = .int .i64 k ∧ wr.heap[w.heap.size]? = some (.cells #[.int .i64 0, .int .u64 0] 188 (0, 0)) ∧ wr.heap[w.heap.size + 1]? = some (.cells #[.int .i64 (wvh (dotK xs ys k)), .int .u64 (wvl (dotK xs ys k))] 188 (0, 0)) ∧ Below w.heap.size w wr) (fun i _ => n - (intOf i).toNat)
 case atStart => exact ⟨0, by omega, rfl, heap_alloc_under _ (heap_alloc_at _ rfl), by rw [heap_alloc_at _ (by simp)]; simp [dotK, sumI, wvh, wvl], (((Below.refl _ _).alloc (Nat.le_refl _) _).alloc (by simp) _)⟩
 case round =>
  obtain ⟨k, hk, rfl, h0, hT, hB⟩ := hrel
  have hl0 := lt_of_block h0
  have hlT := lt_of_block hT
  have hc0 : wr.cell? ⟨w.heap.size + 1, 0, none⟩ = some (.int .i64 (wvh (dotK xs ys k))) := by simp [World.cell?, hT]
  have hc1 : wr.cell? ⟨w.heap.size + 1, 1, none⟩ = some (.int .u64 (wvl (dotK xs ys k))) := by simp [World.cell?, hT]
  by_cases hlt : k < n
  ·obtain ⟨x, hx⟩ : ∃ x, xs[k]? = some x := ⟨_, List.getElem?_eq_getElem (by rw [L1.out]; exact hlt)⟩
   obtain ⟨y, hy⟩ : ∃ y, ys[k]? = some y := ⟨_, List.getElem?_eq_getElem (by rw [L2.out]; exact hlt)⟩
   have d1 := (hB.cell (p := ⟨g1, o1 + k, none⟩) hg1).trans (HX.out k x hx)
   have d2 := (hB.cell (p := ⟨g2, o2 + k, none⟩) hg2).trans (HY.out k y hy)
   have hg1r : g1 < wr.heap.size := Nat.lt_of_lt_of_le hg1 hB.size
   have hg2r : g2 < wr.heap.size := Nat.lt_of_lt_of_le hg2 hB.size
   obtain ⟨b1, b2⟩ := SX.out x (List.mem_of_getElem? hx)
   obtain ⟨b3, b4⟩ := SY.out y (List.mem_of_getElem? hy)
   have hq := mulQ x y b1 b2 b3 b4
   have hs := dotK_succ xs ys k x y hx hy
   have hb1 := HB.out k
   have hc1' := fun w => times_any x y w b1 b2 b3 b4
   have hc2' := fun w => wadd_any (dotK xs ys k) (x * y) w (by omega) (by omega) (by omega) (by omega)
   rw [← hs] at hc2'
   simp only [wv_eq] at hc1' hc2'
   have C1 := Lib.hid hc1'; have C2 := Lib.hid hc2'
   have HS := Lib.hid hs
   clear hc1' hc2' hs hx hy hq
   go_wp2_with fail
   go_region_held3 (fun w' => Below wr.heap.size wr w' ∧ w'.cell? ⟨w.heap.size + 1, 0, none⟩ = some (.int .i64 (wvh (dotK xs ys k))) ∧ w'.cell? ⟨w.heap.size + 1, 1, none⟩ = some (.int .u64 (wvl (dotK xs ys k))) ∧ w'.cell? ⟨g1, o1 + k, none⟩ = some (.int .i64 x) ∧ w'.cell? ⟨g2, o2 + k, none⟩ = some (.int .i64 y))
    (first | exact keep4 (by go_grown) hlT hc0 hlT hc1 hg1r d1 hg2r d2)
    (first | (go_at_call 235; refine (C1.out _).mono ?_; rintro e w5 ⟨rfl, hb5⟩; have hB5 := chainB (by assumption) hb5; have hs5 := hB5.size; try (first | (have hx5 := Box2.newd hb5; have hy5 := hx5.facts) | (have hx5 := Box2.new hb5; have hy5 := hx5.facts))) | (go_at_call 195; refine (C2.out _).mono ?_; rintro e w6 ⟨rfl, hb6⟩; have hB6 := chainB (by assumption) hb6; have hs6 := hB6.size; try (first | (have hx6 := hx5.old hb6; have hy6 := hx6.facts) | (have hx6 := Box2.new hb6; have hy6 := hx6.facts))))
   all_goals
    have hT6 := (hB6.block _ hlT).trans hT
    have h06 := (hB6.block _ hl0).trans h0
    have hB26 := hB.trans (hB6.mono hB.size)
    have hlT6 := lt_of_block hT6
    have f0 : ∀ o, w6.frozen? ⟨w.heap.size + 1, o, none⟩ = false := fun o => by simp [World.frozen?, hT6]
    have e0 : w6.cell? ⟨w.heap.size + 1, 0, none⟩ = some (.int .i64 (wvh (dotK xs ys k))) := by simp [World.cell?, hT6]
    have e1 : w6.cell? ⟨w.heap.size + 1, 1, none⟩ = some (.int .u64 (wvl (dotK xs ys k))) := by simp [World.cell?, hT6]
    clear hc0 hc1 d1 d2
    go_wp2_with fail
    go_roundw
    case rel =>
     refine ⟨k + 1, by omega, by go_num, ?_⟩
     first
      | with_reducible exact endA hB26 h06 hT6 _ _ _
      | with_reducible exact endB hB26 h06 hT6 (show w.heap.size + 1 < w5.heap.size by omega) _ _ _ _
      | with_reducible exact endB hB26 h06 hT6 (show w.heap.size + 1 < wr.heap.size by omega) _ _ _ _
    case measure => simp [intOf]; omega
  ·obtain rfl : k = n := by omega
   have hf0 : wr.frozen? ⟨w.heap.size, 0, none⟩ = false := by simp [World.frozen?, h0]
   have hf1 : wr.frozen? ⟨w.heap.size, 1, none⟩ = false := by simp [World.frozen?, h0]
   have e0 : wr.cell? ⟨w.heap.size, 0, none⟩ = some (.int .i64 0) := by simp [World.cell?, h0]
   have e1 : wr.cell? ⟨w.heap.size, 1, none⟩ = some (.int .u64 0) := by simp [World.cell?, h0]
   go_wp2_with fail
   have s0 : (wr.setCell ⟨w.heap.size, 0, none⟩ (.int .i64 (wvh (dotK xs ys k)))).cell? ⟨w.heap.size, 0, none⟩ = some (.int .i64 (wvh (dotK xs ys k))) := by simp [World.cell?, heap_setCell_same _ _ 0 _ _ _ h0]
   have s1 : ((wr.setCell ⟨w.heap.size, 0, none⟩ (.int .i64 (wvh (dotK xs ys k)))).setCell ⟨w.heap.size, 1, none⟩ (.int .u64 (wvl (dotK xs ys k)))).cell? ⟨w.heap.size, 1, none⟩ = some (.int .u64 (wvl (dotK xs ys k))) := by simp [World.cell?, two_set h0]
   have s2 : ((wr.setCell ⟨w.heap.size, 0, none⟩ (.int .i64 (wvh (dotK xs ys k)))).setCell ⟨w.heap.size, 1, none⟩ (.int .u64 (wvl (dotK xs ys k)))).cell? ⟨w.heap.size, 0, none⟩ = some (.int .i64 (wvh (dotK xs ys k))) := by simp [World.cell?, two_set h0]
   exact bodyPost_ret (v := .tuple #[.agg #[.int .i64 (wvh (dotK xs ys k)), .int .u64 (wvl (dotK xs ys k))], .bool true]) (by simp [results, Tryz.results206, go_sem, s0, s1, s2]) rfl ⟨rfl, (hB.setCell (Nat.le_refl _) _).setCell (Nat.le_refl _) _⟩
end Go.Proofs.YtbhppbeepmllaaaGreatDoor

namespace Go.Proofs.YtbhppbeepmllaaaGreatDoor
open Go.RowKit

def rowL (wd : Nat) (xs : List Int) (k : Nat) : List Int := (xs.drop (k * wd)).take wd
def rowDot (wd : Nat) (xs ys : List Int) (k : Nat) : Int := dotK (rowL wd xs k) (rowL wd ys k) wd
def innerK (wd : Nat) (xs ys : List Int) : Nat → Int
 | 0 => 0
 | k + 1 => if k = 0 ∨ rowDot wd xs ys k < innerK wd xs ys k then rowDot wd xs ys k else innerK wd xs ys k

theorem rowL_len {wd k : Nat} {xs : List Int} (h : k * wd + wd ≤ xs.length) : (rowL wd xs k).length = wd := by simp [rowL]; omega
theorem rowL_at {wd k i : Nat} {xs : List Int} {x : Int} (h : (rowL wd xs k)[i]? = some x) : xs[k * wd + i]? = some x := by
 unfold rowL at h
 rw [List.getElem?_take] at h
 split at h
 ·rwa [List.getElem?_drop] at h
 ·cases h
theorem rowL_mem {wd k : Nat} {xs : List Int} {x : Int} (h : x ∈ rowL wd xs k) : x ∈ xs := List.mem_of_mem_drop (List.mem_of_mem_take h)

theorem own_cap {w : World} {base : Nat} {e : TypeId} {g n cap : Nat} {xs : List Value} (h : w.ownsRow base e 1 (.slice (some ⟨g, 0, none⟩) n cap) n xs) : n ≤ cap := by
 rcases h.2 with ⟨h1, _⟩ | ⟨g', cap', cur, h1, _, _, h2, _⟩
 ·simp at h1
 ·simp at h1
  obtain ⟨_, rfl⟩ := h1
  exact h2

theorem slice3 (g n cap p wd : Nat) (w : World) (h : 1 ≤ wd) (hc : p + wd ≤ cap) :
  (Instr.slice 34 (.slice (some ⟨g, 0, none⟩) n cap) (some (.int .i64 (p : Int))) (some (.int .i64 ((p : Int) + wd))) (some (.int .i64 ((p : Int) + wd)))).run Tryz.prog w = .ok (.slice (some ⟨g, p, none⟩) wd wd) w := by
 rw [run_slice_lhm (P := Tryz.prog) w 34 (some ⟨g, 0, none⟩) n cap (by go_simp) .i64 .i64 .i64 (p : Int) ((p : Int) + wd) ((p : Int) + wd) (by omega) (by omega) (by omega) (by omega)]
 have e1 : ((p : Int)).toNat = p := by omega
 have e2 : ((p : Int) + wd).toNat = p + wd := by omega
 have e3 : p + wd - p = wd := by omega
 rw [e1, e2]
 go_simp
 omega

theorem wless_wv (a b : Int) (w : World) (h0 : -4611686018427387904 ≤ a) (h1 : a ≤ 4611686018427387904) (h2 : -4611686018427387904 ≤ b) (h3 : b ≤ 4611686018427387904) :
  Calls Tryz.prog 234 #[.agg #[.int .i64 (wvh a), .int .u64 (wvl a)], .agg #[.int .i64 (wvh b), .int .u64 (wvl b)]] w fun e w' => e = .returned (.bool (decide (a < b))) ∧ Below w.heap.size w w' := by
 rw [← wv_eq, ← wv_eq]; exact wless_any a b w h0 h1 h2 h3
theorem endC {w5 V : World} {b0 b3 : Nat} {o0 o3 : Obj} {p q : Value} {t : TypeId} (hB : Below w5.heap.size w5 V) (h0 : V.heap[b0]? = some o0) (h3 : V.heap[b3]? = some o3) (h5 : V.heap[w5.heap.size]? = some (.cells #[p, q] t (0, 0))) (n0 : b0 < w5.heap.size) (n3 : b3 < w5.heap.size) (u v : Value) :
  ((V.setCell ⟨w5.heap.size, 0, none⟩ u).setCell ⟨w5.heap.size, 1, none⟩ v).heap[b0]? = some o0 ∧ ((V.setCell ⟨w5.heap.size, 0, none⟩ u).setCell ⟨w5.heap.size, 1, none⟩ v).heap[b3]? = some o3 ∧
  ((V.setCell ⟨w5.heap.size, 0, none⟩ u).setCell ⟨w5.heap.size, 1, none⟩ v).heap[w5.heap.size]? = some (.cells #[u, v] t (0, 0)) ∧ Below w5.heap.size w5 ((V.setCell ⟨w5.heap.size, 0, none⟩ u).setCell ⟨w5.heap.size, 1, none⟩ v) :=
 ⟨(heap_setCell_other _ _ _ _ (by show _ ≠ w5.heap.size; omega)).trans ((heap_setCell_other _ _ _ _ (by show _ ≠ w5.heap.size; omega)).trans h0), (heap_setCell_other _ _ _ _ (by show _ ≠ w5.heap.size; omega)).trans ((heap_setCell_other _ _ _ _ (by show _ ≠ w5.heap.size; omega)).trans h3),
  two_set h5 _ _, (hB.setCell (Nat.le_refl _) _).setCell (Nat.le_refl _) _⟩
theorem inner_bound (wd : Nat) (xs ys : List Int) (hb : ∀ row k, -2305843009213693952 ≤ dotK (rowL wd xs row) (rowL wd ys row) k ∧ dotK (rowL wd xs row) (rowL wd ys row) k ≤ 2305843009213693952) (k : Nat) :
  -4611686018427387904 ≤ innerK wd xs ys k ∧ innerK wd xs ys k ≤ 4611686018427387904 := by
 induction k with
 | zero => simp [innerK]
 | succ k ih =>
  have := hb k wd
  unfold innerK rowDot
  split <;> omega

theorem skCellsN_any (sk g cb cap n : Nat) (c : Cfg) (l : Nat) (cells : List Int) (w : World) (S : SketchOk w sk g cb cap c l cells) (hl : cells.length = n) (hn : 0 < n) (hn2 : n ≤ 1000000) :
  Calls Tryz.prog 233 #[.pointer (some ⟨sk, 0, none⟩)] w fun e w' => (∃ gg c, e = .returned (.slice (some ⟨gg, 0, none⟩) n c) ∧ w'.ownsRow w.heap.size 2 1 (.slice (some ⟨gg, 0, none⟩) n c) n (i64s cells)) ∧ Below w.heap.size w w' := by
 subst hl; exact skCells_any sk g cb cap c l cells w S hn hn2

theorem inner_any (s1 g1 cb1 cap1 s2 g2 cb2 cap2 : Nat) (c : Cfg) (l : Nat) (xs ys : List Int) (w : World) (S : SketchOk w s1 g1 cb1 cap1 c l xs) (T : SketchOk w s2 g2 cb2 cap2 c l ys) (R : c.Ok) (hm : c.m = 1)
  (sx : ∀ x ∈ xs, -2147483648 ≤ x ∧ x ≤ 2147483648) (sy : ∀ x ∈ ys, -2147483648 ≤ x ∧ x ≤ 2147483648)
  (hb : ∀ row k, -2305843009213693952 ≤ dotK (rowL c.wd xs row) (rowL c.wd ys row) k ∧ dotK (rowL c.wd xs row) (rowL c.wd ys row) k ≤ 2305843009213693952) :
  Calls Tryz.prog 202 #[.pointer (some ⟨s1, 0, none⟩), .pointer (some ⟨s2, 0, none⟩)] w fun e w' => e = .returned (.tuple #[wv (innerK c.wd xs ys c.r), .int .i64 0]) ∧ Below w.heap.size w w' := by
 have hS := S.lt
 have hT := T.lt
 have hr1 := R.r1
 have hr2 := R.r2
 have hw1 := R.w1
 have hw2 := R.w2
 have hxl := S.grid.sz
 have hyl := T.grid.sz
 have hmul : 1 * 1 ≤ c.r * c.wd := Nat.mul_le_mul hr1 hw1
 have hmul2 : c.r * c.wd ≤ 8 * 128 := Nat.mul_le_mul hr2 hw2
 obtain ⟨n, hn⟩ : ∃ n, c.r * c.wd = n := ⟨_, rfl⟩
 rw [hn] at hxl hyl hmul hmul2
 have C1 := Lib.hid fun (k : After w.heap.size w) => skConfig_any s1 g1 cb1 cap1 c l xs k.w (S.below k.h hS.1 hS.2.1 hS.2.2)
 have C2 := Lib.hid fun (k : After w.heap.size w) => skConfig_any s2 g2 cb2 cap2 c l ys k.w (T.below k.h hT.1 hT.2.1 hT.2.2)
 have L1 := Lib.hid fun (k : After w.heap.size w) => skLevel_any s1 g1 cb1 cap1 c l xs k.w (S.below k.h hS.1 hS.2.1 hS.2.2)
 have L2 := Lib.hid fun (k : After w.heap.size w) => skLevel_any s2 g2 cb2 cap2 c l ys k.w (T.below k.h hT.1 hT.2.1 hT.2.2)
 have X1 := Lib.hid fun (k : After w.heap.size w) => skCellsN_any s1 g1 cb1 cap1 n c l xs k.w (S.below k.h hS.1 hS.2.1 hS.2.2) hxl (by omega) (by omega)
 have X2 := Lib.hid fun (k : After w.heap.size w) => skCellsN_any s2 g2 cb2 cap2 n c l ys k.w (T.below k.h hT.1 hT.2.1 hT.2.2) hyl (by omega) (by omega)
 have HB := Lib.hid hb
 have HBI := Lib.hid (inner_bound c.wd xs ys hb)
 clear hb
 rw [wv_eq]
 have hme : ((c.m : Int) == 1) = true := by simp; omega
 have hme2 : decide ((c.m : Int) = 1) = true := by simp; omega
 have HM := Lib.hid hm; have HN := Lib.hid hn; have HXL := Lib.hid hxl; have HYL := Lib.hid hyl
 clear hm hn hxl hyl
 go_enter Tryz.func202, Tryz.ntmps202
 go_wp2_with fail
 have hb0 : Below w.heap.size w (w.alloc (.cells #[.int .i64 0, .int .u64 0] 188)) := (Below.refl _ _).alloc (Nat.le_refl _) _
 refine (C1.out ⟨_, hb0⟩).mono ?_
 rintro e w1 ⟨rfl, hb1⟩
 have k1 := hb0.trans (hb1.mono hb0.size)
 go_wp2_with fail
 refine (C2.out ⟨_, k1⟩).mono ?_
 rintro e w2 ⟨rfl, hb2⟩
 have k2 := k1.trans (hb2.mono k1.size)
 go_wp2_with fail
 refine (L1.out ⟨_, k2⟩).mono ?_
 rintro e w2' ⟨rfl, rfl⟩
 go_wp2_with fail
 refine (L2.out ⟨_, k2⟩).mono ?_
 rintro e w2' ⟨rfl, rfl⟩
 go_wp2_with fail
 refine (C1.out ⟨_, k2⟩).mono ?_
 rintro e w3 ⟨rfl, hb3⟩
 have k3 := k2.trans (hb3.mono k2.size)
 go_wp2_with fail
 have k3a := k3.alloc k3.size (.cells #[.int .i64 c.b, .int .i64 c.r, .int .i64 c.wd, .int .i64 c.m, .int .u64 c.s] 24)
 refine (X1.out ⟨_, k3a⟩).mono ?_
 rintro e w4 ⟨⟨xg, xc, rfl, xo⟩, hb4⟩
 have k4 := k3a.trans (hb4.mono k3a.size)
 go_wp2_with fail
 refine (X2.out ⟨_, k4⟩).mono ?_
 rintro e w5 ⟨⟨yg, yc, rfl, yo⟩, hb5⟩
 have k5 := k4.trans (hb5.mono k4.size)
 have sz3 : w.heap.size < w3.heap.size := by have a1 := hb1.size; have a2 := hb2.size; have a3 := hb3.size; simp at a1 a2 a3; omega
 have sz4 : w3.heap.size + 1 ≤ w4.heap.size := by have a4 := hb4.size; simp at a4; omega
 have sz5 : w4.heap.size ≤ w5.heap.size := hb5.size
 have hc4 : w5.heap[w3.heap.size]? = some (.cells #[.int .i64 c.b, .int .i64 c.r, .int .i64 c.wd, .int .i64 c.m, .int .u64 c.s] 24 (0, 0)) :=
  (hb5.block _ (show w3.heap.size < w4.heap.size by omega)).trans ((hb4.block _ (by simp)).trans (heap_alloc_at _ rfl))
 have hc0 : w5.heap[w.heap.size]? = some (.cells #[.int .i64 0, .int .u64 0] 188 (0, 0)) := by
  have a1 := (hb1.block _ (by simp)).trans (heap_alloc_at (w := w) (.cells #[.int .i64 0, .int .u64 0] 188) rfl)
  have l1 := lt_of_block a1
  have a2 := (hb2.block _ l1).trans a1
  have l2 := lt_of_block a2
  have a3 := (hb3.block _ l2).trans a2
  exact (hb5.block _ (show w.heap.size < w4.heap.size by omega)).trans ((hb4.block _ (by simp; omega)).trans (heap_alloc_under _ a3))
 have q0 : w5.cell? ⟨w3.heap.size, 0, none⟩ = some (.int .i64 c.b) := by simp [World.cell?, hc4]
 have q1 : w5.cell? ⟨w3.heap.size, 1, none⟩ = some (.int .i64 c.r) := by simp [World.cell?, hc4]
 have q2 : w5.cell? ⟨w3.heap.size, 2, none⟩ = some (.int .i64 c.wd) := by simp [World.cell?, hc4]
 have q3 : w5.cell? ⟨w3.heap.size, 3, none⟩ = some (.int .i64 c.m) := by simp [World.cell?, hc4]
 have q4 : w5.cell? ⟨w3.heap.size, 4, none⟩ = some (.int .u64 c.s) := by simp [World.cell?, hc4]
 have xo5 := xo.kept (grown_of_below hb5 none) (by simp [Value.ownBlock])
 have hx5 := ints_lt xo5
 have hy5 := ints_lt yo
 have l35 : w3.heap.size < w5.heap.size := by omega
 have l05 : w.heap.size < w5.heap.size := by omega
 go_wp2_with fail
 clear q0 q1 q2 q3 q4
 have hxl := HXL.out
 have hyl := HYL.out
 have hcx := fun (k : Nat) x (hk : xs[k]? = some x) => (xo5.cellAt k (by have := (List.getElem?_eq_some_iff.1 hk).1; omega)).trans (i64s_at hk)
 have hcy := fun (k : Nat) x (hk : ys[k]? = some x) => (yo.cellAt k (by have := (List.getElem?_eq_some_iff.1 hk).1; omega)).trans (i64s_at hk)
 have HCX := Lib.hid hcx; have HCY := Lib.hid hcy
 clear hcx hcy hxl hyl
 go_loopw [48] (fun i wr => ∃ k : Nat, k ≤ c.r ∧ i = .int .i64 k ∧ wr.heap[w.heap.size]? = some (.cells #[.int .i64 0, .int .u64 0] 188 (0, 0)) ∧ wr.heap[w3.heap.size]? = some (.cells #[.int .i64 c.b, .int .i64 c.r, .int .i64 c.wd, .int .i64 c.m, .int .u64 c.s] 24 (0, 0)) ∧
  wr.heap[w5.heap.size]? = some (.cells #[.int .i64 (wvh (innerK c.wd xs ys k)), .int .u64 (wvl (innerK c.wd xs ys k))] 188 (0, 0)) ∧ Below w5.heap.size w5 wr) (fun i _ => c.r - (intOf i).toNat)
 case atStart => exact ⟨0, by omega, rfl, heap_alloc_under _ hc0, heap_alloc_under _ hc4, by rw [heap_alloc_at _ rfl]; simp [innerK, wvh, wvl], (Below.refl _ _).alloc (Nat.le_refl _) _⟩
 case round =>
  obtain ⟨k, hk, rfl, b0, b3, b5, hB⟩ := hrel
  by_cases hlt : k < c.r
  ·obtain ⟨p, hp⟩ : ∃ p, k * c.wd = p := ⟨_, rfl⟩
   have hpn : p + c.wd ≤ n := by
    have h1 : (k + 1) * c.wd ≤ c.r * c.wd := Nat.mul_le_mul_right _ hlt
    rw [Nat.add_mul, Nat.one_mul, hp, HN.out] at h1
    exact h1
   have m1 : (k : Int) * (c.wd : Int) = (p : Int) := by rw [← hp, Int.natCast_mul]
   have m2 : ((k : Int) + 1) * (c.wd : Int) = (p : Int) + c.wd := by rw [Int.add_mul, Int.one_mul, m1]
   have m3 : IntKind.i64.wrap (p : Int) = p := by rw [IntKind.wrap_i64]; omega
   have m4 : IntKind.i64.wrap ((k : Int) + 1) = (k : Int) + 1 := by rw [IntKind.wrap_i64]; omega
   have m5 : IntKind.i64.wrap ((p : Int) + c.wd) = (p : Int) + c.wd := by rw [IntKind.wrap_i64]; omega
   have HPP := Lib.hid hp
   have hpx : p + c.wd ≤ xc := Nat.le_trans hpn (own_cap xo5)
   have hpy : p + c.wd ≤ yc := Nat.le_trans hpn (own_cap yo)
   have hpxi : (p : Int) + c.wd ≤ xc := by omega
   have hpyi : (p : Int) + c.wd ≤ yc := by omega
   have hs1 := fun w => slice3 xg n xc p c.wd w hw1 hpx
   have hs2 := fun w => slice3 yg n yc p c.wd w hw1 hpy
   have hp0 : (0 : Int) ≤ (p : Int) := by omega
   have hp1 : (p : Int) ≤ (p : Int) + c.wd := by omega
   have hp2 : (0 : Int) ≤ (p : Int) + c.wd := by omega
   clear hp
   have a0 := lt_of_block b0
   have a3 := lt_of_block b3
   have a5 := lt_of_block b5
   have q0 : wr.cell? ⟨w3.heap.size, 0, none⟩ = some (.int .i64 c.b) := by simp [World.cell?, b3]
   have q1 : wr.cell? ⟨w3.heap.size, 1, none⟩ = some (.int .i64 c.r) := by simp [World.cell?, b3]
   have q2 : wr.cell? ⟨w3.heap.size, 2, none⟩ = some (.int .i64 c.wd) := by simp [World.cell?, b3]
   have q3 : wr.cell? ⟨w3.heap.size, 3, none⟩ = some (.int .i64 c.m) := by simp [World.cell?, b3]
   have q4 : wr.cell? ⟨w3.heap.size, 4, none⟩ = some (.int .u64 c.s) := by simp [World.cell?, b3]
   go_wp2_with fail
   go_region_held3 (fun w' => w'.cell? ⟨w3.heap.size, 2, none⟩ = some (.int .i64 c.wd)) (go_keep) (fail)
   go_wp2_with fail
   obtain ⟨W1, hW1⟩ : ∃ W1, wr.drew = W1 := ⟨_, rfl⟩
   have kB : Below wr.heap.size wr W1 := by rw [← hW1]; exact (Below.refl _ _).drew
   rw [hW1]
   clear hW1 q0 q1 q2 q3 q4
   have hB1 := hB.trans (kB.mono hB.size)
   replace b0 := (kB.block _ a0).trans b0
   replace b3 := (kB.block _ a3).trans b3
   replace b5 := (kB.block _ a5).trans b5
   clear hB kB a0 a3 a5
   have a0 := lt_of_block b0
   have a3 := lt_of_block b3
   have a5 := lt_of_block b5
   have HD := Lib.hid fun (q : After W1.heap.size W1) => dot_any (rowL c.wd xs k) (rowL c.wd ys k) xg p c.wd yg p c.wd c.wd q.w (rowL_len (by rw [HPP.out, HXL.out]; exact hpn)) (rowL_len (by rw [HPP.out, HYL.out]; exact hpn))
    (Nat.lt_of_lt_of_le hx5 (Nat.le_trans hB1.size q.h.size)) (Nat.lt_of_lt_of_le hy5 (Nat.le_trans hB1.size q.h.size)) (by omega)
    (fun i x hi => (q.h.cell (p := ⟨xg, p + i, none⟩) (Nat.lt_of_lt_of_le hx5 hB1.size)).trans ((hB1.cell (p := ⟨xg, p + i, none⟩) hx5).trans (HCX.out _ _ (HPP.out ▸ rowL_at hi))))
    (fun i x hi => (q.h.cell (p := ⟨yg, p + i, none⟩) (Nat.lt_of_lt_of_le hy5 hB1.size)).trans ((hB1.cell (p := ⟨yg, p + i, none⟩) hy5).trans (HCY.out _ _ (HPP.out ▸ rowL_at hi))))
    (fun x hx => sx x (rowL_mem hx)) (fun x hx => sy x (rowL_mem hx)) (fun i => HB.out k i)
   have hbd : -4611686018427387904 ≤ rowDot c.wd xs ys k ∧ rowDot c.wd xs ys k ≤ 4611686018427387904 := by have := HB.out k c.wd; unfold rowDot; omega
   have HBD := Lib.hid hbd
   clear hbd
   have hd : dotK (rowL c.wd xs k) (rowL c.wd ys k) c.wd = rowDot c.wd xs ys k := rfl
   rw [hd] at HD
   simp only [wv_eq] at HD
   clear hd
   go_region_held3 (fun w' => Below W1.heap.size W1 w')
    (first | exact Below.drew (Below.refl _ _) | go_grown)
    (first | (go_at_call 206; refine (HD.out ⟨_, by assumption⟩).mono ?_; rintro e w6 ⟨rfl, hb6⟩; have hB6 := Below.trans (by assumption) (hb6.mono (Below.size (by assumption))); have hs6 := hB6.size; try (first | (have hx6 := Box2.newd hb6; have hy6 := hx6.facts) | (have hx6 := Box2.new hb6; have hy6 := hx6.facts))))
   ·obtain ⟨V, hV⟩ : ∃ V, w6.alloc (.cells #[.int .i64 (wvh (rowDot c.wd xs ys k)), .int .u64 (wvl (rowDot c.wd xs ys k))] 188) = V := ⟨_, rfl⟩
    have kV : Below W1.heap.size W1 V := by rw [← hV]; exact hB6.alloc hB6.size _
    have hxV : Box2 V w6.heap.size (.int .i64 (wvh (rowDot c.wd xs ys k))) (.int .u64 (wvl (rowDot c.wd xs ys k))) 188 := by rw [← hV]; exact ⟨heap_alloc_at _ rfl⟩
    obtain ⟨bx, hbx⟩ : ∃ bx, w6.heap.size = bx := ⟨_, rfl⟩
    have hbx5 : w5.heap.size < bx := by omega
    rw [hV]
    rw [hbx] at hxV ⊢
    clear hV hbx
    have V0 := (kV.block _ a0).trans b0
    have V3 := (kV.block _ a3).trans b3
    have V5 := (kV.block _ a5).trans b5
    have hB7 := hB1.trans (kV.mono hB1.size)
    have d0 := lt_of_block V0
    have d3 := lt_of_block V3
    have d5 := lt_of_block V5
    clear hB6 hs6 hb6 a0 a3 a5
    have hyV := hxV.facts
    have hf5 : ∀ o, V.frozen? ⟨w5.heap.size, o, none⟩ = false := fun o => by simp [World.frozen?, V5]
    have q0 : V.cell? ⟨w5.heap.size, 0, none⟩ = some (.int .i64 (wvh (innerK c.wd xs ys k))) := by simp [World.cell?, V5]
    have q1 : V.cell? ⟨w5.heap.size, 1, none⟩ = some (.int .u64 (wvl (innerK c.wd xs ys k))) := by simp [World.cell?, V5]
    rcases Nat.eq_zero_or_pos k with hk0 | hk0
    ·have hkd : decide (k = 0) = true := by simp; omega
     have hkb : ((k : Int) == 0) = true := by simp; omega
     have hkc : decide ((k : Int) = 0) = true := by simp; omega
     have HK0 := Lib.hid hk0
     clear hk0
     go_wp2_with fail
     go_roundw
     case rel =>
      have hk0 := HK0.out
      refine ⟨k + 1, by omega, by go_num, ?_⟩
      have e : innerK c.wd xs ys (k + 1) = rowDot c.wd xs ys k := by unfold innerK; rw [if_pos (.inl hk0)]
      rw [e]
      exact endC hB7 V0 V3 V5 (by omega) (by omega) _ _
     case measure => simp [intOf]; omega
    ·have hkd : decide (k = 0) = false := by simp; omega
     have hkb : ((k : Int) == 0) = false := by simp; omega
     have hkc : decide ((k : Int) = 0) = false := by simp; omega
     have HL := Lib.hid fun w => wless_wv (rowDot c.wd xs ys k) (innerK c.wd xs ys k) w HBD.out.1 HBD.out.2 (HBI.out k).1 (HBI.out k).2
     have HKP := Lib.hid hk0
     clear hk0
     by_cases hlt2 : rowDot c.wd xs ys k < innerK c.wd xs ys k
     ·have hld : decide (rowDot c.wd xs ys k < innerK c.wd xs ys k) = true := by simp; omega
      have HLT := Lib.hid hlt2
      clear hlt2
      go_wp2_with fail
      refine (HL.out _).mono ?_
      rintro e w8 ⟨rfl, hb8⟩
      rw [hld]
      clear hld
      have U0 := (hb8.block _ d0).trans V0
      have U3 := (hb8.block _ d3).trans V3
      have U5 := (hb8.block _ d5).trans V5
      have hU := hxV.old hb8
      have hyU := hU.facts
      have hB8 := hB7.trans (hb8.mono hB7.size)
      have u5 := lt_of_block U5
      have hf5' : ∀ o, w8.frozen? ⟨w5.heap.size, o, none⟩ = false := fun o => by simp [World.frozen?, U5]
      have p0 : w8.cell? ⟨w5.heap.size, 0, none⟩ = some (.int .i64 (wvh (innerK c.wd xs ys k))) := by simp [World.cell?, U5]
      have p1 : w8.cell? ⟨w5.heap.size, 1, none⟩ = some (.int .u64 (wvl (innerK c.wd xs ys k))) := by simp [World.cell?, U5]
      go_wp2_with fail
      go_roundw
      case rel =>
       refine ⟨k + 1, by omega, by go_num, ?_⟩
       have e : innerK c.wd xs ys (k + 1) = rowDot c.wd xs ys k := by unfold innerK; rw [if_pos (.inr HLT.out)]
       rw [e]
       exact endC hB8 U0 U3 U5 (by omega) (by omega) _ _
      case measure => simp [intOf]; omega
     ·have hld : decide (rowDot c.wd xs ys k < innerK c.wd xs ys k) = false := by simp; omega
      have HLT := Lib.hid hlt2
      clear hlt2
      go_wp2_with fail
      refine (HL.out _).mono ?_
      rintro e w8 ⟨rfl, hb8⟩
      rw [hld]
      clear hld
      have U0 := (hb8.block _ d0).trans V0
      have U3 := (hb8.block _ d3).trans V3
      have U5 := (hb8.block _ d5).trans V5
      have hB8 := hB7.trans (hb8.mono hB7.size)
      go_wp2_with fail
      go_roundw
      case rel =>
       refine ⟨k + 1, by omega, by go_num, U0, U3, ?_, hB8⟩
       have e : innerK c.wd xs ys (k + 1) = innerK c.wd xs ys k := by
        have h1 := HKP.out
        have h2 := HLT.out
        rw [innerK, if_neg (by omega)]
       rw [e]
       exact U5
      case measure => simp [intOf]; omega
   ·obtain ⟨V, hV⟩ : ∃ V, (w6.setCell ⟨W1.heap.size, 0, none⟩ (.int .i64 (wvh (rowDot c.wd xs ys k)))).setCell ⟨W1.heap.size, 1, none⟩ (.int .u64 (wvl (rowDot c.wd xs ys k))) = V := ⟨_, rfl⟩
    have kV : Below W1.heap.size W1 V := by rw [← hV]; exact (hB6.setCell (Nat.le_refl _) _).setCell (Nat.le_refl _) _
    have hxV : Box2 V W1.heap.size (.int .i64 (wvh (rowDot c.wd xs ys k))) (.int .u64 (wvl (rowDot c.wd xs ys k))) 188 := by rw [← hV]; exact ⟨two_set hx6.hd _ _⟩
    have hbx5 : w5.heap.size < W1.heap.size := by omega
    rw [hV]
    clear hV hx6 hy6
    have V0 := (kV.block _ a0).trans b0
    have V3 := (kV.block _ a3).trans b3
    have V5 := (kV.block _ a5).trans b5
    have hB7 := hB1.trans (kV.mono hB1.size)
    have d0 := lt_of_block V0
    have d3 := lt_of_block V3
    have d5 := lt_of_block V5
    clear hB6 hs6 hb6 a0 a3 a5
    have hyV := hxV.facts
    have hf5 : ∀ o, V.frozen? ⟨w5.heap.size, o, none⟩ = false := fun o => by simp [World.frozen?, V5]
    have q0 : V.cell? ⟨w5.heap.size, 0, none⟩ = some (.int .i64 (wvh (innerK c.wd xs ys k))) := by simp [World.cell?, V5]
    have q1 : V.cell? ⟨w5.heap.size, 1, none⟩ = some (.int .u64 (wvl (innerK c.wd xs ys k))) := by simp [World.cell?, V5]
    rcases Nat.eq_zero_or_pos k with hk0 | hk0
    ·have hkd : decide (k = 0) = true := by simp; omega
     have hkb : ((k : Int) == 0) = true := by simp; omega
     have hkc : decide ((k : Int) = 0) = true := by simp; omega
     have HK0 := Lib.hid hk0
     clear hk0
     go_wp2_with fail
     go_roundw
     case rel =>
      have hk0 := HK0.out
      refine ⟨k + 1, by omega, by go_num, ?_⟩
      have e : innerK c.wd xs ys (k + 1) = rowDot c.wd xs ys k := by unfold innerK; rw [if_pos (.inl hk0)]
      rw [e]
      exact endC hB7 V0 V3 V5 (by omega) (by omega) _ _
     case measure => simp [intOf]; omega
    ·have hkd : decide (k = 0) = false := by simp; omega
     have hkb : ((k : Int) == 0) = false := by simp; omega
     have hkc : decide ((k : Int) = 0) = false := by simp; omega
     have HL := Lib.hid fun w => wless_wv (rowDot c.wd xs ys k) (innerK c.wd xs ys k) w HBD.out.1 HBD.out.2 (HBI.out k).1 (HBI.out k).2
     have HKP := Lib.hid hk0
     clear hk0
     by_cases hlt2 : rowDot c.wd xs ys k < innerK c.wd xs ys k
     ·have hld : decide (rowDot c.wd xs ys k < innerK c.wd xs ys k) = true := by simp; omega
      have HLT := Lib.hid hlt2
      clear hlt2
      go_wp2_with fail
      refine (HL.out _).mono ?_
      rintro e w8 ⟨rfl, hb8⟩
      rw [hld]
      clear hld
      have U0 := (hb8.block _ d0).trans V0
      have U3 := (hb8.block _ d3).trans V3
      have U5 := (hb8.block _ d5).trans V5
      have hU := hxV.old hb8
      have hyU := hU.facts
      have hB8 := hB7.trans (hb8.mono hB7.size)
      have u5 := lt_of_block U5
      have hf5' : ∀ o, w8.frozen? ⟨w5.heap.size, o, none⟩ = false := fun o => by simp [World.frozen?, U5]
      have p0 : w8.cell? ⟨w5.heap.size, 0, none⟩ = some (.int .i64 (wvh (innerK c.wd xs ys k))) := by simp [World.cell?, U5]
      have p1 : w8.cell? ⟨w5.heap.size, 1, none⟩ = some (.int .u64 (wvl (innerK c.wd xs ys k))) := by simp [World.cell?, U5]
      go_wp2_with fail
      go_roundw
      case rel =>
       refine ⟨k + 1, by omega, by go_num, ?_⟩
       have e : innerK c.wd xs ys (k + 1) = rowDot c.wd xs ys k := by unfold innerK; rw [if_pos (.inr HLT.out)]
       rw [e]
       exact endC hB8 U0 U3 U5 (by omega) (by omega) _ _
      case measure => simp [intOf]; omega
     ·have hld : decide (rowDot c.wd xs ys k < innerK c.wd xs ys k) = false := by simp; omega
      have HLT := Lib.hid hlt2
      clear hlt2
      go_wp2_with fail
      refine (HL.out _).mono ?_
      rintro e w8 ⟨rfl, hb8⟩
      rw [hld]
      clear hld
      have U0 := (hb8.block _ d0).trans V0
      have U3 := (hb8.block _ d3).trans V3
      have U5 := (hb8.block _ d5).trans V5
      have hB8 := hB7.trans (hb8.mono hB7.size)
      go_wp2_with fail
      go_roundw
      case rel =>
       refine ⟨k + 1, by omega, by go_num, U0, U3, ?_, hB8⟩
       have e : innerK c.wd xs ys (k + 1) = innerK c.wd xs ys k := by
        have h1 := HKP.out
        have h2 := HLT.out
        rw [innerK, if_neg (by omega)]
       rw [e]
       exact U5
      case measure => simp [intOf]; omega
  ·obtain rfl : k = c.r := by omega
   have a0 := lt_of_block b0
   have a5 := lt_of_block b5
   have hf0 : wr.frozen? ⟨w.heap.size, 0, none⟩ = false := by simp [World.frozen?, b0]
   have hf1 : wr.frozen? ⟨w.heap.size, 1, none⟩ = false := by simp [World.frozen?, b0]
   have e0 : wr.cell? ⟨w.heap.size, 0, none⟩ = some (.int .i64 0) := by simp [World.cell?, b0]
   have e1 : wr.cell? ⟨w.heap.size, 1, none⟩ = some (.int .u64 0) := by simp [World.cell?, b0]
   have q0 : wr.cell? ⟨w5.heap.size, 0, none⟩ = some (.int .i64 (wvh (innerK c.wd xs ys c.r))) := by simp [World.cell?, b5]
   have q1 : wr.cell? ⟨w5.heap.size, 1, none⟩ = some (.int .u64 (wvl (innerK c.wd xs ys c.r))) := by simp [World.cell?, b5]
   have s0 : (wr.setCell ⟨w.heap.size, 0, none⟩ (.int .i64 (wvh (innerK c.wd xs ys c.r)))).cell? ⟨w.heap.size, 0, none⟩ = some (.int .i64 (wvh (innerK c.wd xs ys c.r))) := by simp [World.cell?, heap_setCell_same _ _ 0 _ _ _ b0]
   have s1 : ((wr.setCell ⟨w.heap.size, 0, none⟩ (.int .i64 (wvh (innerK c.wd xs ys c.r)))).setCell ⟨w.heap.size, 1, none⟩ (.int .u64 (wvl (innerK c.wd xs ys c.r)))).cell? ⟨w.heap.size, 1, none⟩ = some (.int .u64 (wvl (innerK c.wd xs ys c.r))) := by simp [World.cell?, two_set b0]
   have s2 : ((wr.setCell ⟨w.heap.size, 0, none⟩ (.int .i64 (wvh (innerK c.wd xs ys c.r)))).setCell ⟨w.heap.size, 1, none⟩ (.int .u64 (wvl (innerK c.wd xs ys c.r)))).cell? ⟨w.heap.size, 0, none⟩ = some (.int .i64 (wvh (innerK c.wd xs ys c.r))) := by simp [World.cell?, two_set b0]
   have hBe := k5.trans (hB.mono k5.size)
   go_wp2_with fail
   exact bodyPost_ret (v := .tuple #[.agg #[.int .i64 (wvh (innerK c.wd xs ys c.r)), .int .u64 (wvl (innerK c.wd xs ys c.r))], .int .i64 0]) (by simp [results, Tryz.results202, go_sem, s0, s1, s2]) rfl ⟨rfl, (hBe.setCell (Nat.le_refl _) _).setCell (Nat.le_refl _) _⟩
end Go.Proofs.YtbhppbeepmllaaaGreatDoor
