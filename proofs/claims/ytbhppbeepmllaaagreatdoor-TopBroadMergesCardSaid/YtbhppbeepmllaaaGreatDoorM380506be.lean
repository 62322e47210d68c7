import Derived.Test.YtbhppbeepmllaaaGreatDoorM17d9493a
import Derived.Deep.RegionHeld3
set_option linter.unusedVariables false
set_option linter.unusedSimpArgs false
set_option maxRecDepth 100000
namespace Go.Proofs.YtbhppbeepmllaaaGreatDoor
open Go.RowKit

theorem own_succ {W : World} {base : Nat} {e : TypeId} {size : Nat} {v : Value} {k : Nat} {xs : List Value} (h : W.ownsRow base e size v (k + 1) xs) : ∃ g cap, v = .slice (some ⟨g, 0, none⟩) (k + 1) cap := by
 rcases h.2 with ⟨_, h⟩ | ⟨g, cap, _, h, _⟩
 ·omega
 ·exact ⟨g, cap, h⟩

theorem below_drew_left {B : Nat} {w w1 : World} (h : Below B w.drew w1) : Below B w w1 := ⟨h.os, h.tape, h.output, h.size, h.block⟩
theorem own_base {W : World} {base base' : Nat} {e : TypeId} {size : Nat} {v : Value} {k : Nat} {xs : List Value} (h : W.ownsRow base e size v k xs) (hb : base' ≤ base) : W.ownsRow base' e size v k xs := by
 refine ⟨h.1, ?_⟩
 rcases h.2 with h1 | ⟨g, cap, cur, h1, h2, h3⟩
 ·exact .inl h1
 ·exact .inr ⟨g, cap, cur, h1, Nat.le_trans hb h2, h3⟩

theorem clone_any (cb cap n : Nat) (xs : List Value) (w : World) (hn : 0 < n) (hn2 : n ≤ 1000000) (hx : w.ownsRow 0 2 1 (.slice (some ⟨cb, 0, none⟩) n cap) n xs) (h1 : ∀ u ∈ xs, u.oneCell' = true) :
  Calls Tryz.prog 259 #[.slice (some ⟨cb, 0, none⟩) n cap] w fun e w' => (∃ g c, e = .returned (.slice (some ⟨g, 0, none⟩) n c) ∧ w'.ownsRow w.heap.size 2 1 (.slice (some ⟨g, 0, none⟩) n c) n xs) ∧ Below w.heap.size w w' := by
 have heq : ∀ w, _ := fun w => Lib.run_eql_slice_nil (P := Tryz.prog) (w := w) 34 2 (some ⟨cb, 0, none⟩) n cap 0 0 Tryz.underlying34
 obtain ⟨i0, hi, hz0, hz1, hz2⟩ := info_parts Tryz.info2
 have hlt := (hx.lt cb rfl).2
 have hcell : ∀ j u, xs[j]? = some u → (w.alloc (.cells #[] 2)).cell? ((⟨cb, 0, none⟩ : Addr).add j) = some u := fun j u hu => by
  have := hx.alloc (.cells #[] 2)
  exact this.cells (g := cb) rfl j u hu
 have hl : xs.length = n * 1 := hx.1
 have HC := Lib.hid hcell; have HL := Lib.hid hl; have H1 := Lib.hid h1
 clear hcell hl h1
 go_enter Tryz.func259, Tryz.ntmps259
 go_wp2_with (at_builtin; refine wpList_append_own _ rfl (.tmp 5) (.tmp 6) 34 rfl w.heap.size 2 i0 (.int .i64 0) 1 8 Tryz.underlying34 hi hz0 hz1 hz2 rfl (by decide) _ _ _ rfl (World.ownsRow_lit w #[] 0 (Nat.le_refl _) (by simp [maxLen]) rfl) ⟨cb, 0, none⟩ n cap xs rfl HL.out HC.out H1.out (by unfold maxLen; omega) (by omega) (by simp) ?_; intro v' w1 hown hgrow hnil)
 simp only [List.nil_append, Nat.zero_add] at hown
 obtain ⟨m, rfl⟩ : ∃ m, n = m + 1 := ⟨n - 1, by omega⟩
 obtain ⟨g, c, hv⟩ := own_succ hown
 subst hv
 go_ret
 exact ⟨⟨g, c, rfl, hown⟩, ((Below.refl _ _).alloc (Nat.le_refl _) _).grown hgrow (by simp) (fun k e => by have e' : some w.heap.size = some k := e; cases e'; exact Nat.le_refl _)⟩

theorem cells_any (g cb cap rows width : Nat) (cells : List Int) (w : World) (G : GridOk w g cb cap rows width cells) (hn : 0 < cells.length) (hn2 : cells.length ≤ 1000000) :
  Calls Tryz.prog 236 #[.pointer (some ⟨g, 0, none⟩)] w fun e w' => (∃ gg c, e = .returned (.slice (some ⟨gg, 0, none⟩) cells.length c) ∧ w'.ownsRow w.heap.size 2 1 (.slice (some ⟨gg, 0, none⟩) cells.length c) cells.length (i64s cells)) ∧ Below w.heap.size w w' := by
 have c2 : w.cell? ⟨g, 2, none⟩ = some (.slice (some ⟨cb, 0, none⟩) cells.length cap) := by simp [World.cell?, G.hd]
 have hc := clone_any cb cap cells.length (i64s cells) w hn hn2 G.row (ints_oneCell _ _)
 have HC := Lib.hid hc
 clear hc
 go_enter Tryz.func236, Tryz.ntmps236
 go_wp2_with fail
 refine HC.out.mono ?_
 rintro e w1 ⟨⟨gg, c, rfl, hown⟩, hb⟩
 go_wp2
 go_ret
 exact ⟨⟨gg, c, rfl, hown⟩, hb⟩

structure NewGrid (B : Nat) (w' : World) (g cb cap rows width : Nat) (cells : List Int) : Prop where
 ok : GridOk w' g cb cap rows width cells
 g1 : B ≤ g
 c1 : B ≤ cb

theorem gcopy_any (g cb cap rows width : Nat) (cells : List Int) (w : World) (G : GridOk w g cb cap rows width cells) (hn : 0 < cells.length) (hn2 : cells.length ≤ 1000000) :
  Calls Tryz.prog 247 #[.pointer (some ⟨g, 0, none⟩)] w fun e w' => (∃ g' cb' cap', e = .returned (.pointer (some ⟨g', 0, none⟩)) ∧ NewGrid w.heap.size w' g' cb' cap' rows width cells) ∧ Below w.heap.size w w' := by
 have hlt := G.lt
 have q0 : w.cell? ⟨g, 0, none⟩ = some (.int .i64 rows) := by simp [World.cell?, G.hd]
 have q1 : w.cell? ⟨g, 1, none⟩ = some (.int .i64 width) := by simp [World.cell?, G.hd]
 have q2 : w.cell? ⟨g, 2, none⟩ = some (.slice (some ⟨cb, 0, none⟩) cells.length cap) := by simp [World.cell?, G.hd]
 have hc := clone_any cb cap cells.length (i64s cells) w.drew hn hn2 G.row.drew (ints_oneCell _ _)
 have HC := Lib.hid hc
 clear hc
 go_enter Tryz.func247, Tryz.ntmps247
 go_wp2_with fail
 go_region_held3 (fun w' => w'.cell? ⟨g, 0, none⟩ = some (.int .i64 rows) ∧ w'.cell? ⟨g, 1, none⟩ = some (.int .i64 width) ∧ w'.cell? ⟨g, 2, none⟩ = some (.slice (some ⟨cb, 0, none⟩) cells.length cap))
  (first | go_keep | exact ⟨(hb.cell (p := ⟨g, 0, none⟩) hlt.1).trans q0, (hb.cell (p := ⟨g, 1, none⟩) hlt.1).trans q1, (hb.cell (p := ⟨g, 2, none⟩) hlt.1).trans q2⟩)
  (first | (go_at_call 259; refine HC.out.mono ?_; rintro e w1 ⟨⟨gg, c, rfl, hown⟩, hb⟩))
 go_wp2
 go_ret
 have hl := hown.lt gg rfl
 have hbs : w.heap.size ≤ w1.heap.size := hb.size
 have hb' : Below w.heap.size w w1 := below_drew_left hb
 exact ⟨⟨w1.heap.size, gg, c, rfl, ⟨heap_alloc_new _ _, (own_base hown (Nat.zero_le _)).alloc _, G.sz⟩, hbs, hl.1⟩, hb'.alloc hbs _⟩

theorem gnew_any (rows width : Nat) (w : World) (h1 : 1 ≤ rows) (h2 : rows ≤ 8) (h3 : 1 ≤ width) (h4 : width ≤ 128) :
  Calls Tryz.prog 173 #[.int .i64 rows, .int .i64 width] w fun e w' => (∃ g' cb' cap', e = .returned (.pointer (some ⟨g', 0, none⟩)) ∧ NewGrid w.heap.size w' g' cb' cap' rows width (List.replicate (rows * width) 0)) ∧ Below w.heap.size w w' := by
 have m1 : rows * width ≤ 8 * 128 := Nat.mul_le_mul h2 h4
 obtain ⟨n, hn⟩ : ∃ n, rows * width = n := ⟨_, rfl⟩
 have hn' : (rows : Int) * (width : Int) = (n : Int) := by rw [← hn, Int.natCast_mul]
 have HN := Lib.hid hn
 rw [hn] at m1
 clear hn
 obtain ⟨i0, hi, hz0, hz1, hz2⟩ := info_parts Tryz.info2
 rw [HN.out]
 go_enter Tryz.func173, Tryz.ntmps173
 go_wp2_with (at_make; refine wpList_make_full _ rfl (.tmp 15) (.tmp 15) 34 rfl w.heap.size 2 i0 (.int .i64 0) 1 Tryz.underlying34 hi hz0 hz1 .i64 .i64 n n n rfl rfl (by omega) (by omega) (by rw [hz2]; omega) (by unfold maxLen; omega) (by omega) ?_; intro w2 hown hgrow)
 go_ret
 have hb := below_of_grown hgrow
 have hl := hown.lt w.heap.size rfl
 simp only [Value.cells, Nat.mul_one, toList_madeCells_one] at hown
 have e : List.replicate n (Value.int .i64 0) = i64s (List.replicate n 0) := by simp [i64s]
 rw [e] at hown
 have hl2 : (List.replicate n (0 : Int)).length = n := List.length_replicate
 refine ⟨⟨w2.heap.size, w.heap.size, n, rfl, ⟨?_, ?_, ?_⟩, hb.size, Nat.le_refl _⟩, hb.alloc hb.size _⟩
 ·rw [hl2]; exact heap_alloc_new _ _
 ·rw [hl2]; exact (own_base hown (Nat.zero_le _)).alloc _
 ·rw [hl2, HN.out]
end Go.Proofs.YtbhppbeepmllaaaGreatDoor
