import Derived.Test.YtbhppbeepmllaaaGreatDoorMf389b4ca
set_option linter.unusedVariables false
set_option linter.unusedSimpArgs false
set_option maxRecDepth 100000
set_option maxHeartbeats 2000000
namespace Go.Proofs.YtbhppbeepmllaaaGreatDoor
open Go.RowKit

theorem cmdExport (rb g cc : Nat) (s : ByteArray) (n : Nat) (st en : Nat → Nat) (ks : Nat → Int) (w : World) (S : RdSt w rb g cc s n st en 0) (h0 : 0 < n) (hn : n ≤ 65536) (hv : s.extract (st 0) (en 0) = ⟨#[101, 120, 112, 111, 114, 116]⟩) (N : NumsAt s n st en 1 1 ks) (ht : Tab w) (h4 : 4 < rb) :
  Calls Tryz.prog 75 #[.pointer (some ⟨rb, 0, none⟩)] w fun e w' => e = .returned (.iface 168 (.agg #[.string ⟨#[101, 120, 112, 111, 114, 116]⟩, .int .i64 (ks 0), .slice none 0 0])) ∧ RdSt w' rb g cc s n st en 2 ∧ w.grownBy w' (some rb) := by
 have HX := Lib.hid fun w S => hv ▸ next_any rb g cc s n st en 0 w S h0 hn
 have HN := Lib.hid N
 have hlr := lt_of_block S.hd
 have h4t := ht.lt
 have HT := Lib.hid ht
 clear N ht
 have q0 : w.cell? ⟨rb, 1, none⟩ = some (.int .i64 0) := cell_of_heap S.hd 1 _ rfl
 have HS := Lib.hid S
 go_enter Tryz.func75, Tryz.ntmps75
 go_wp2_with fail
 refine (HX.out _ S).mono ?_
 rintro e w1 ⟨rfl, hb1⟩
 have q1 : w1.cell? ⟨rb, 1, none⟩ = some (.int .i64 0) := cell_of_heap ((hb1.block _ hlr).trans S.hd) 1 _ rfl
 have f1 : w1.frozen? ⟨rb, 1, none⟩ = false := by simp [World.frozen?, (hb1.block _ hlr).trans S.hd]
 have hl1 : rb < w1.heap.size := Nat.lt_of_lt_of_le hlr hb1.size
 have S1 : RdSt (w1.setCell ⟨rb, 1, none⟩ (.int .i64 1)) rb g cc s n st en 1 := (S.below hb1).step 1 rfl
 have G1 : w.grownBy (w1.setCell ⟨rb, 1, none⟩ (.int .i64 1)) (some rb) := grown_trans (grown_of_below hb1 _) (grown_set _ _ _ _)
 have T1 : Tab (w1.setCell ⟨rb, 1, none⟩ (.int .i64 1)) := HT.out.keep (G1.block 4 h4t (by intro e; have := Option.some.inj e; omega))
 have H1 := Lib.hid (And.intro S1 (And.intro G1 T1))
 clear HX S hb1 S1 G1 T1 q0 HS hv
 go_wp2_with fail
 obtain ⟨W, hW⟩ : ∃ W, w1.setCell ⟨rb, 1, none⟩ (.int .i64 1) = W := ⟨_, rfl⟩
 rw [hW] at H1
 rw [hW]
 clear hW q1 f1 hl1
 obtain ⟨S1, G1, T1⟩ := H1.out
 have HC := Lib.hid (num_any rb g cc s n st en 1 (ks 0) W S1 (by have := HN.out.le; omega) hn (HN.out.lo 0 (by omega)).1 (HN.out.lo 0 (by omega)).2 (HN.out.is 0 (by omega)) T1)
 refine HC.out.mono ?_
 rintro e w2 ⟨rfl, hS2, hg2⟩
 have H2 := Lib.hid (And.intro hS2 (grown_trans G1 hg2))
 clear HC H1 S1 G1 T1 hS2 hg2
 go_wp2_with fail
 go_ret
 exact ⟨rfl, H2.out⟩
theorem cmdInner (rb g cc : Nat) (s : ByteArray) (n : Nat) (st en : Nat → Nat) (ks : Nat → Int) (w : World) (S : RdSt w rb g cc s n st en 0) (h0 : 0 < n) (hn : n ≤ 65536) (hv : s.extract (st 0) (en 0) = ⟨#[105, 110, 110, 101, 114]⟩) (N : NumsAt s n st en 1 2 ks) (ht : Tab w) (h4 : 4 < rb) :
  Calls Tryz.prog 75 #[.pointer (some ⟨rb, 0, none⟩)] w fun e w' => e = .returned (.iface 171 (.agg #[.string ⟨#[105, 110, 110, 101, 114]⟩, .int .i64 (ks 0), .int .i64 (ks 1)])) ∧ RdSt w' rb g cc s n st en 3 ∧ w.grownBy w' (some rb) := by
 have HX := Lib.hid fun w S => hv ▸ next_any rb g cc s n st en 0 w S h0 hn
 have HN := Lib.hid N
 have hlr := lt_of_block S.hd
 have h4t := ht.lt
 have HT := Lib.hid ht
 clear N ht
 have q0 : w.cell? ⟨rb, 1, none⟩ = some (.int .i64 0) := cell_of_heap S.hd 1 _ rfl
 have HS := Lib.hid S
 go_enter Tryz.func75, Tryz.ntmps75
 go_wp2_with fail
 refine (HX.out _ S).mono ?_
 rintro e w1 ⟨rfl, hb1⟩
 have q1 : w1.cell? ⟨rb, 1, none⟩ = some (.int .i64 0) := cell_of_heap ((hb1.block _ hlr).trans S.hd) 1 _ rfl
 have f1 : w1.frozen? ⟨rb, 1, none⟩ = false := by simp [World.frozen?, (hb1.block _ hlr).trans S.hd]
 have hl1 : rb < w1.heap.size := Nat.lt_of_lt_of_le hlr hb1.size
 have S1 : RdSt (w1.setCell ⟨rb, 1, none⟩ (.int .i64 1)) rb g cc s n st en 1 := (S.below hb1).step 1 rfl
 have G1 : w.grownBy (w1.setCell ⟨rb, 1, none⟩ (.int .i64 1)) (some rb) := grown_trans (grown_of_below hb1 _) (grown_set _ _ _ _)
 have T1 : Tab (w1.setCell ⟨rb, 1, none⟩ (.int .i64 1)) := HT.out.keep (G1.block 4 h4t (by intro e; have := Option.some.inj e; omega))
 have H1 := Lib.hid (And.intro S1 (And.intro G1 T1))
 clear HX S hb1 S1 G1 T1 q0 HS hv
 go_wp2_with fail
 obtain ⟨W, hW⟩ : ∃ W, w1.setCell ⟨rb, 1, none⟩ (.int .i64 1) = W := ⟨_, rfl⟩
 rw [hW] at H1
 rw [hW]
 clear hW q1 f1 hl1
 obtain ⟨S1, G1, T1⟩ := H1.out
 have HC := Lib.hid (nums_any rb g cc s n st en 1 2 ks W S1 hn (by omega) (by omega) HN.out T1 h4)
 refine HC.out.mono ?_
 rintro e w2 ⟨⟨g', c', rfl, hg', hown⟩, hS2, hg2⟩
 have c0 : w2.cell? ⟨g', 0, none⟩ = some (.int .i64 (ks 0)) := hown.cellAt 0 (by omega)
 have c1 : w2.cell? ⟨g', 1, none⟩ = some (.int .i64 (ks 1)) := hown.cellAt 1 (by omega)
 have hcc := own_cap hown
 have hcd : ¬ c' = 1 := by omega
 have hce : ¬ c' - 1 = 0 := by omega
 have HO := Lib.hid (And.intro (And.intro (Nat.le_trans G1.size hg') hown) (And.intro hS2 (grown_trans G1 hg2)))
 clear HC H1 S1 G1 T1 hS2 hg2 hown hg'
 go_wp2_with fail
 go_quiet (fail)
 go_wp2_with fail
 go_ret
 exact ⟨rfl, HO.out.2.1.below (below_drewN (Below.refl _ _) _), grown_trans HO.out.2.2 (grown_of_below (below_drewN (Below.refl _ _) _) _)⟩
theorem cmdMerge (rb g cc : Nat) (s : ByteArray) (n : Nat) (st en : Nat → Nat) (ks : Nat → Int) (w : World) (S : RdSt w rb g cc s n st en 0) (h0 : 0 < n) (hn : n ≤ 65536) (hv : s.extract (st 0) (en 0) = ⟨#[109, 101, 114, 103, 101]⟩) (N : NumsAt s n st en 1 2 ks) (ht : Tab w) (h4 : 4 < rb) :
  Calls Tryz.prog 75 #[.pointer (some ⟨rb, 0, none⟩)] w fun e w' => e = .returned (.iface 171 (.agg #[.string ⟨#[109, 101, 114, 103, 101]⟩, .int .i64 (ks 0), .int .i64 (ks 1)])) ∧ RdSt w' rb g cc s n st en 3 ∧ w.grownBy w' (some rb) := by
 have HX := Lib.hid fun w S => hv ▸ next_any rb g cc s n st en 0 w S h0 hn
 have HN := Lib.hid N
 have hlr := lt_of_block S.hd
 have h4t := ht.lt
 have HT := Lib.hid ht
 clear N ht
 have q0 : w.cell? ⟨rb, 1, none⟩ = some (.int .i64 0) := cell_of_heap S.hd 1 _ rfl
 have HS := Lib.hid S
 go_enter Tryz.func75, Tryz.ntmps75
 go_wp2_with fail
 refine (HX.out _ S).mono ?_
 rintro e w1 ⟨rfl, hb1⟩
 have q1 : w1.cell? ⟨rb, 1, none⟩ = some (.int .i64 0) := cell_of_heap ((hb1.block _ hlr).trans S.hd) 1 _ rfl
 have f1 : w1.frozen? ⟨rb, 1, none⟩ = false := by simp [World.frozen?, (hb1.block _ hlr).trans S.hd]
 have hl1 : rb < w1.heap.size := Nat.lt_of_lt_of_le hlr hb1.size
 have S1 : RdSt (w1.setCell ⟨rb, 1, none⟩ (.int .i64 1)) rb g cc s n st en 1 := (S.below hb1).step 1 rfl
 have G1 : w.grownBy (w1.setCell ⟨rb, 1, none⟩ (.int .i64 1)) (some rb) := grown_trans (grown_of_below hb1 _) (grown_set _ _ _ _)
 have T1 : Tab (w1.setCell ⟨rb, 1, none⟩ (.int .i64 1)) := HT.out.keep (G1.block 4 h4t (by intro e; have := Option.some.inj e; omega))
 have H1 := Lib.hid (And.intro S1 (And.intro G1 T1))
 clear HX S hb1 S1 G1 T1 q0 HS hv
 go_wp2_with fail
 obtain ⟨W, hW⟩ : ∃ W, w1.setCell ⟨rb, 1, none⟩ (.int .i64 1) = W := ⟨_, rfl⟩
 rw [hW] at H1
 rw [hW]
 clear hW q1 f1 hl1
 obtain ⟨S1, G1, T1⟩ := H1.out
 have HC := Lib.hid (nums_any rb g cc s n st en 1 2 ks W S1 hn (by omega) (by omega) HN.out T1 h4)
 refine HC.out.mono ?_
 rintro e w2 ⟨⟨g', c', rfl, hg', hown⟩, hS2, hg2⟩
 have c0 : w2.cell? ⟨g', 0, none⟩ = some (.int .i64 (ks 0)) := hown.cellAt 0 (by omega)
 have c1 : w2.cell? ⟨g', 1, none⟩ = some (.int .i64 (ks 1)) := hown.cellAt 1 (by omega)
 have hcc := own_cap hown
 have hcd : ¬ c' = 1 := by omega
 have hce : ¬ c' - 1 = 0 := by omega
 have HO := Lib.hid (And.intro (And.intro (Nat.le_trans G1.size hg') hown) (And.intro hS2 (grown_trans G1 hg2)))
 clear HC H1 S1 G1 T1 hS2 hg2 hown hg'
 go_wp2_with fail
 go_quiet (fail)
 go_wp2_with fail
 go_ret
 exact ⟨rfl, HO.out.2.1.below (below_drewN (Below.refl _ _) _), grown_trans HO.out.2.2 (grown_of_below (below_drewN (Below.refl _ _) _) _)⟩
theorem cmdSub (rb g cc : Nat) (s : ByteArray) (n : Nat) (st en : Nat → Nat) (ks : Nat → Int) (w : World) (S : RdSt w rb g cc s n st en 0) (h0 : 0 < n) (hn : n ≤ 65536) (hv : s.extract (st 0) (en 0) = ⟨#[115, 117, 98, 116, 114, 97, 99, 116]⟩) (N : NumsAt s n st en 1 2 ks) (ht : Tab w) (h4 : 4 < rb) :
  Calls Tryz.prog 75 #[.pointer (some ⟨rb, 0, none⟩)] w fun e w' => e = .returned (.iface 171 (.agg #[.string ⟨#[115, 117, 98, 116, 114, 97, 99, 116]⟩, .int .i64 (ks 0), .int .i64 (ks 1)])) ∧ RdSt w' rb g cc s n st en 3 ∧ w.grownBy w' (some rb) := by
 have HX := Lib.hid fun w S => hv ▸ next_any rb g cc s n st en 0 w S h0 hn
 have HN := Lib.hid N
 have hlr := lt_of_block S.hd
 have h4t := ht.lt
 have HT := Lib.hid ht
 clear N ht
 have q0 : w.cell? ⟨rb, 1, none⟩ = some (.int .i64 0) := cell_of_heap S.hd 1 _ rfl
 have HS := Lib.hid S
 go_enter Tryz.func75, Tryz.ntmps75
 go_wp2_with fail
 refine (HX.out _ S).mono ?_
 rintro e w1 ⟨rfl, hb1⟩
 have q1 : w1.cell? ⟨rb, 1, none⟩ = some (.int .i64 0) := cell_of_heap ((hb1.block _ hlr).trans S.hd) 1 _ rfl
 have f1 : w1.frozen? ⟨rb, 1, none⟩ = false := by simp [World.frozen?, (hb1.block _ hlr).trans S.hd]
 have hl1 : rb < w1.heap.size := Nat.lt_of_lt_of_le hlr hb1.size
 have S1 : RdSt (w1.setCell ⟨rb, 1, none⟩ (.int .i64 1)) rb g cc s n st en 1 := (S.below hb1).step 1 rfl
 have G1 : w.grownBy (w1.setCell ⟨rb, 1, none⟩ (.int .i64 1)) (some rb) := grown_trans (grown_of_below hb1 _) (grown_set _ _ _ _)
 have T1 : Tab (w1.setCell ⟨rb, 1, none⟩ (.int .i64 1)) := HT.out.keep (G1.block 4 h4t (by intro e; have := Option.some.inj e; omega))
 have H1 := Lib.hid (And.intro S1 (And.intro G1 T1))
 clear HX S hb1 S1 G1 T1 q0 HS hv
 go_wp2_with fail
 obtain ⟨W, hW⟩ : ∃ W, w1.setCell ⟨rb, 1, none⟩ (.int .i64 1) = W := ⟨_, rfl⟩
 rw [hW] at H1
 rw [hW]
 clear hW q1 f1 hl1
 obtain ⟨S1, G1, T1⟩ := H1.out
 have HC := Lib.hid (nums_any rb g cc s n st en 1 2 ks W S1 hn (by omega) (by omega) HN.out T1 h4)
 refine HC.out.mono ?_
 rintro e w2 ⟨⟨g', c', rfl, hg', hown⟩, hS2, hg2⟩
 have c0 : w2.cell? ⟨g', 0, none⟩ = some (.int .i64 (ks 0)) := hown.cellAt 0 (by omega)
 have c1 : w2.cell? ⟨g', 1, none⟩ = some (.int .i64 (ks 1)) := hown.cellAt 1 (by omega)
 have hcc := own_cap hown
 have hcd : ¬ c' = 1 := by omega
 have hce : ¬ c' - 1 = 0 := by omega
 have HO := Lib.hid (And.intro (And.intro (Nat.le_trans G1.size hg') hown) (And.intro hS2 (grown_trans G1 hg2)))
 clear HC H1 S1 G1 T1 hS2 hg2 hown hg'
 go_wp2_with fail
 go_quiet (fail)
 go_wp2_with fail
 go_ret
 exact ⟨rfl, HO.out.2.1.below (below_drewN (Below.refl _ _) _), grown_trans HO.out.2.2 (grown_of_below (below_drewN (Below.refl _ _) _) _)⟩
theorem cmdQuantile (rb g cc : Nat) (s : ByteArray) (n : Nat) (st en : Nat → Nat) (ks : Nat → Int) (w : World) (S : RdSt w rb g cc s n st en 0) (h0 : 0 < n) (hn : n ≤ 65536) (hv : s.extract (st 0) (en 0) = ⟨#[113, 117, 97, 110, 116, 105, 108, 101]⟩) (N : NumsAt s n st en 1 2 ks) (ht : Tab w) (h4 : 4 < rb) :
  Calls Tryz.prog 75 #[.pointer (some ⟨rb, 0, none⟩)] w fun e w' => (∃ g' c', e = .returned (.iface 168 (.agg #[.string ⟨#[113, 117, 97, 110, 116, 105, 108, 101]⟩, .int .i64 (ks 0), .slice (some ⟨g', 1, none⟩) 1 (c' - 1)])) ∧ w.heap.size ≤ g' ∧ w'.ownsRow 0 2 1 (.slice (some ⟨g', 0, none⟩) 2 c') 2 (i64s ((List.range 2).map ks))) ∧ RdSt w' rb g cc s n st en 3 ∧ w.grownBy w' (some rb) := by
 have HX := Lib.hid fun w S => hv ▸ next_any rb g cc s n st en 0 w S h0 hn
 have HN := Lib.hid N
 have hlr := lt_of_block S.hd
 have h4t := ht.lt
 have HT := Lib.hid ht
 clear N ht
 have q0 : w.cell? ⟨rb, 1, none⟩ = some (.int .i64 0) := cell_of_heap S.hd 1 _ rfl
 have HS := Lib.hid S
 go_enter Tryz.func75, Tryz.ntmps75
 go_wp2_with fail
 refine (HX.out _ S).mono ?_
 rintro e w1 ⟨rfl, hb1⟩
 have q1 : w1.cell? ⟨rb, 1, none⟩ = some (.int .i64 0) := cell_of_heap ((hb1.block _ hlr).trans S.hd) 1 _ rfl
 have f1 : w1.frozen? ⟨rb, 1, none⟩ = false := by simp [World.frozen?, (hb1.block _ hlr).trans S.hd]
 have hl1 : rb < w1.heap.size := Nat.lt_of_lt_of_le hlr hb1.size
 have S1 : RdSt (w1.setCell ⟨rb, 1, none⟩ (.int .i64 1)) rb g cc s n st en 1 := (S.below hb1).step 1 rfl
 have G1 : w.grownBy (w1.setCell ⟨rb, 1, none⟩ (.int .i64 1)) (some rb) := grown_trans (grown_of_below hb1 _) (grown_set _ _ _ _)
 have T1 : Tab (w1.setCell ⟨rb, 1, none⟩ (.int .i64 1)) := HT.out.keep (G1.block 4 h4t (by intro e; have := Option.some.inj e; omega))
 have H1 := Lib.hid (And.intro S1 (And.intro G1 T1))
 clear HX S hb1 S1 G1 T1 q0 HS hv
 go_wp2_with fail
 obtain ⟨W, hW⟩ : ∃ W, w1.setCell ⟨rb, 1, none⟩ (.int .i64 1) = W := ⟨_, rfl⟩
 rw [hW] at H1
 rw [hW]
 clear hW q1 f1 hl1
 obtain ⟨S1, G1, T1⟩ := H1.out
 have HC := Lib.hid (nums_any rb g cc s n st en 1 2 ks W S1 hn (by omega) (by omega) HN.out T1 h4)
 refine HC.out.mono ?_
 rintro e w2 ⟨⟨g', c', rfl, hg', hown⟩, hS2, hg2⟩
 have c0 : w2.cell? ⟨g', 0, none⟩ = some (.int .i64 (ks 0)) := hown.cellAt 0 (by omega)
 have c1 : w2.cell? ⟨g', 1, none⟩ = some (.int .i64 (ks 1)) := hown.cellAt 1 (by omega)
 have hcc := own_cap hown
 have hcd : ¬ c' = 1 := by omega
 have hce : ¬ c' - 1 = 0 := by omega
 have HO := Lib.hid (And.intro (And.intro (Nat.le_trans G1.size hg') hown) (And.intro hS2 (grown_trans G1 hg2)))
 clear HC H1 S1 G1 T1 hS2 hg2 hown hg'
 go_wp2_with fail
 go_quiet (fail)
 go_wp2_with fail
 go_ret
 exact ⟨⟨_, _, rfl, HO.out.1.1, own_below (HO.out.1.2.mono (Nat.zero_le _)) (below_drewN (Below.refl _ _) _)⟩, HO.out.2.1.below (below_drewN (Below.refl _ _) _), grown_trans HO.out.2.2 (grown_of_below (below_drewN (Below.refl _ _) _) _)⟩
theorem cmdPoint (rb g cc : Nat) (s : ByteArray) (n : Nat) (st en : Nat → Nat) (ks : Nat → Int) (w : World) (S : RdSt w rb g cc s n st en 0) (h0 : 0 < n) (hn : n ≤ 65536) (hv : s.extract (st 0) (en 0) = ⟨#[112, 111, 105, 110, 116]⟩) (N : NumsAt s n st en 1 3 ks) (ht : Tab w) (h4 : 4 < rb) :
  Calls Tryz.prog 75 #[.pointer (some ⟨rb, 0, none⟩)] w fun e w' => (∃ g' c', e = .returned (.iface 168 (.agg #[.string ⟨#[112, 111, 105, 110, 116]⟩, .int .i64 (ks 0), .slice (some ⟨g', 1, none⟩) 2 (c' - 1)])) ∧ w.heap.size ≤ g' ∧ w'.ownsRow 0 2 1 (.slice (some ⟨g', 0, none⟩) 3 c') 3 (i64s ((List.range 3).map ks))) ∧ RdSt w' rb g cc s n st en 4 ∧ w.grownBy w' (some rb) := by
 have HX := Lib.hid fun w S => hv ▸ next_any rb g cc s n st en 0 w S h0 hn
 have HN := Lib.hid N
 have hlr := lt_of_block S.hd
 have h4t := ht.lt
 have HT := Lib.hid ht
 clear N ht
 have q0 : w.cell? ⟨rb, 1, none⟩ = some (.int .i64 0) := cell_of_heap S.hd 1 _ rfl
 have HS := Lib.hid S
 go_enter Tryz.func75, Tryz.ntmps75
 go_wp2_with fail
 refine (HX.out _ S).mono ?_
 rintro e w1 ⟨rfl, hb1⟩
 have q1 : w1.cell? ⟨rb, 1, none⟩ = some (.int .i64 0) := cell_of_heap ((hb1.block _ hlr).trans S.hd) 1 _ rfl
 have f1 : w1.frozen? ⟨rb, 1, none⟩ = false := by simp [World.frozen?, (hb1.block _ hlr).trans S.hd]
 have hl1 : rb < w1.heap.size := Nat.lt_of_lt_of_le hlr hb1.size
 have S1 : RdSt (w1.setCell ⟨rb, 1, none⟩ (.int .i64 1)) rb g cc s n st en 1 := (S.below hb1).step 1 rfl
 have G1 : w.grownBy (w1.setCell ⟨rb, 1, none⟩ (.int .i64 1)) (some rb) := grown_trans (grown_of_below hb1 _) (grown_set _ _ _ _)
 have T1 : Tab (w1.setCell ⟨rb, 1, none⟩ (.int .i64 1)) := HT.out.keep (G1.block 4 h4t (by intro e; have := Option.some.inj e; omega))
 have H1 := Lib.hid (And.intro S1 (And.intro G1 T1))
 clear HX S hb1 S1 G1 T1 q0 HS hv
 go_wp2_with fail
 obtain ⟨W, hW⟩ : ∃ W, w1.setCell ⟨rb, 1, none⟩ (.int .i64 1) = W := ⟨_, rfl⟩
 rw [hW] at H1
 rw [hW]
 clear hW q1 f1 hl1
 obtain ⟨S1, G1, T1⟩ := H1.out
 have HC := Lib.hid (nums_any rb g cc s n st en 1 3 ks W S1 hn (by omega) (by omega) HN.out T1 h4)
 refine HC.out.mono ?_
 rintro e w2 ⟨⟨g', c', rfl, hg', hown⟩, hS2, hg2⟩
 have c0 : w2.cell? ⟨g', 0, none⟩ = some (.int .i64 (ks 0)) := hown.cellAt 0 (by omega)
 have c1 : w2.cell? ⟨g', 1, none⟩ = some (.int .i64 (ks 1)) := hown.cellAt 1 (by omega)
 have c2 : w2.cell? ⟨g', 2, none⟩ = some (.int .i64 (ks 2)) := hown.cellAt 2 (by omega)
 have hcc := own_cap hown
 have hcd : ¬ c' = 1 := by omega
 have hce : ¬ c' - 1 = 0 := by omega
 have HO := Lib.hid (And.intro (And.intro (Nat.le_trans G1.size hg') hown) (And.intro hS2 (grown_trans G1 hg2)))
 clear HC H1 S1 G1 T1 hS2 hg2 hown hg'
 go_wp2_with fail
 go_quiet (fail)
 go_wp2_with fail
 go_ret
 exact ⟨⟨_, _, rfl, HO.out.1.1, own_below (HO.out.1.2.mono (Nat.zero_le _)) (below_drewN (Below.refl _ _) _)⟩, HO.out.2.1.below (below_drewN (Below.refl _ _) _), grown_trans HO.out.2.2 (grown_of_below (below_drewN (Below.refl _ _) _) _)⟩
theorem cmdRange (rb g cc : Nat) (s : ByteArray) (n : Nat) (st en : Nat → Nat) (ks : Nat → Int) (w : World) (S : RdSt w rb g cc s n st en 0) (h0 : 0 < n) (hn : n ≤ 65536) (hv : s.extract (st 0) (en 0) = ⟨#[114, 97, 110, 103, 101]⟩) (N : NumsAt s n st en 1 3 ks) (ht : Tab w) (h4 : 4 < rb) :
  Calls Tryz.prog 75 #[.pointer (some ⟨rb, 0, none⟩)] w fun e w' => (∃ g' c', e = .returned (.iface 168 (.agg #[.string ⟨#[114, 97, 110, 103, 101]⟩, .int .i64 (ks 0), .slice (some ⟨g', 1, none⟩) 2 (c' - 1)])) ∧ w.heap.size ≤ g' ∧ w'.ownsRow 0 2 1 (.slice (some ⟨g', 0, none⟩) 3 c') 3 (i64s ((List.range 3).map ks))) ∧ RdSt w' rb g cc s n st en 4 ∧ w.grownBy w' (some rb) := by
 have HX := Lib.hid fun w S => hv ▸ next_any rb g cc s n st en 0 w S h0 hn
 have HN := Lib.hid N
 have hlr := lt_of_block S.hd
 have h4t := ht.lt
 have HT := Lib.hid ht
 clear N ht
 have q0 : w.cell? ⟨rb, 1, none⟩ = some (.int .i64 0) := cell_of_heap S.hd 1 _ rfl
 have HS := Lib.hid S
 go_enter Tryz.func75, Tryz.ntmps75
 go_wp2_with fail
 refine (HX.out _ S).mono ?_
 rintro e w1 ⟨rfl, hb1⟩
 have q1 : w1.cell? ⟨rb, 1, none⟩ = some (.int .i64 0) := cell_of_heap ((hb1.block _ hlr).trans S.hd) 1 _ rfl
 have f1 : w1.frozen? ⟨rb, 1, none⟩ = false := by simp [World.frozen?, (hb1.block _ hlr).trans S.hd]
 have hl1 : rb < w1.heap.size := Nat.lt_of_lt_of_le hlr hb1.size
 have S1 : RdSt (w1.setCell ⟨rb, 1, none⟩ (.int .i64 1)) rb g cc s n st en 1 := (S.below hb1).step 1 rfl
 have G1 : w.grownBy (w1.setCell ⟨rb, 1, none⟩ (.int .i64 1)) (some rb) := grown_trans (grown_of_below hb1 _) (grown_set _ _ _ _)
 have T1 : Tab (w1.setCell ⟨rb, 1, none⟩ (.int .i64 1)) := HT.out.keep (G1.block 4 h4t (by intro e; have := Option.some.inj e; omega))
 have H1 := Lib.hid (And.intro S1 (And.intro G1 T1))
 clear HX S hb1 S1 G1 T1 q0 HS hv
 go_wp2_with fail
 obtain ⟨W, hW⟩ : ∃ W, w1.setCell ⟨rb, 1, none⟩ (.int .i64 1) = W := ⟨_, rfl⟩
 rw [hW] at H1
 rw [hW]
 clear hW q1 f1 hl1
 obtain ⟨S1, G1, T1⟩ := H1.out
 have HC := Lib.hid (nums_any rb g cc s n st en 1 3 ks W S1 hn (by omega) (by omega) HN.out T1 h4)
 refine HC.out.mono ?_
 rintro e w2 ⟨⟨g', c', rfl, hg', hown⟩, hS2, hg2⟩
 have c0 : w2.cell? ⟨g', 0, none⟩ = some (.int .i64 (ks 0)) := hown.cellAt 0 (by omega)
 have c1 : w2.cell? ⟨g', 1, none⟩ = some (.int .i64 (ks 1)) := hown.cellAt 1 (by omega)
 have c2 : w2.cell? ⟨g', 2, none⟩ = some (.int .i64 (ks 2)) := hown.cellAt 2 (by omega)
 have hcc := own_cap hown
 have hcd : ¬ c' = 1 := by omega
 have hce : ¬ c' - 1 = 0 := by omega
 have HO := Lib.hid (And.intro (And.intro (Nat.le_trans G1.size hg') hown) (And.intro hS2 (grown_trans G1 hg2)))
 clear HC H1 S1 G1 T1 hS2 hg2 hown hg'
 go_wp2_with fail
 go_quiet (fail)
 go_wp2_with fail
 go_ret
 exact ⟨⟨_, _, rfl, HO.out.1.1, own_below (HO.out.1.2.mono (Nat.zero_le _)) (below_drewN (Below.refl _ _) _)⟩, HO.out.2.1.below (below_drewN (Below.refl _ _) _), grown_trans HO.out.2.2 (grown_of_below (below_drewN (Below.refl _ _) _) _)⟩
theorem cmdHeavy (rb g cc : Nat) (s : ByteArray) (n : Nat) (st en : Nat → Nat) (ks : Nat → Int) (w : World) (S : RdSt w rb g cc s n st en 0) (h0 : 0 < n) (hn : n ≤ 65536) (hv : s.extract (st 0) (en 0) = ⟨#[104, 101, 97, 118, 121]⟩) (N : NumsAt s n st en 1 3 ks) (ht : Tab w) (h4 : 4 < rb) :
  Calls Tryz.prog 75 #[.pointer (some ⟨rb, 0, none⟩)] w fun e w' => (∃ g' c', e = .returned (.iface 168 (.agg #[.string ⟨#[104, 101, 97, 118, 121]⟩, .int .i64 (ks 0), .slice (some ⟨g', 1, none⟩) 2 (c' - 1)])) ∧ w.heap.size ≤ g' ∧ w'.ownsRow 0 2 1 (.slice (some ⟨g', 0, none⟩) 3 c') 3 (i64s ((List.range 3).map ks))) ∧ RdSt w' rb g cc s n st en 4 ∧ w.grownBy w' (some rb) := by
 have HX := Lib.hid fun w S => hv ▸ next_any rb g cc s n st en 0 w S h0 hn
 have HN := Lib.hid N
 have hlr := lt_of_block S.hd
 have h4t := ht.lt
 have HT := Lib.hid ht
 clear N ht
 have q0 : w.cell? ⟨rb, 1, none⟩ = some (.int .i64 0) := cell_of_heap S.hd 1 _ rfl
 have HS := Lib.hid S
 go_enter Tryz.func75, Tryz.ntmps75
 go_wp2_with fail
 refine (HX.out _ S).mono ?_
 rintro e w1 ⟨rfl, hb1⟩
 have q1 : w1.cell? ⟨rb, 1, none⟩ = some (.int .i64 0) := cell_of_heap ((hb1.block _ hlr).trans S.hd) 1 _ rfl
 have f1 : w1.frozen? ⟨rb, 1, none⟩ = false := by simp [World.frozen?, (hb1.block _ hlr).trans S.hd]
 have hl1 : rb < w1.heap.size := Nat.lt_of_lt_of_le hlr hb1.size
 have S1 : RdSt (w1.setCell ⟨rb, 1, none⟩ (.int .i64 1)) rb g cc s n st en 1 := (S.below hb1).step 1 rfl
 have G1 : w.grownBy (w1.setCell ⟨rb, 1, none⟩ (.int .i64 1)) (some rb) := grown_trans (grown_of_below hb1 _) (grown_set _ _ _ _)
 have T1 : Tab (w1.setCell ⟨rb, 1, none⟩ (.int .i64 1)) := HT.out.keep (G1.block 4 h4t (by intro e; have := Option.some.inj e; omega))
 have H1 := Lib.hid (And.intro S1 (And.intro G1 T1))
 clear HX S hb1 S1 G1 T1 q0 HS hv
 go_wp2_with fail
 obtain ⟨W, hW⟩ : ∃ W, w1.setCell ⟨rb, 1, none⟩ (.int .i64 1) = W := ⟨_, rfl⟩
 rw [hW] at H1
 rw [hW]
 clear hW q1 f1 hl1
 obtain ⟨S1, G1, T1⟩ := H1.out
 have HC := Lib.hid (nums_any rb g cc s n st en 1 3 ks W S1 hn (by omega) (by omega) HN.out T1 h4)
 refine HC.out.mono ?_
 rintro e w2 ⟨⟨g', c', rfl, hg', hown⟩, hS2, hg2⟩
 have c0 : w2.cell? ⟨g', 0, none⟩ = some (.int .i64 (ks 0)) := hown.cellAt 0 (by omega)
 have c1 : w2.cell? ⟨g', 1, none⟩ = some (.int .i64 (ks 1)) := hown.cellAt 1 (by omega)
 have c2 : w2.cell? ⟨g', 2, none⟩ = some (.int .i64 (ks 2)) := hown.cellAt 2 (by omega)
 have hcc := own_cap hown
 have hcd : ¬ c' = 1 := by omega
 have hce : ¬ c' - 1 = 0 := by omega
 have HO := Lib.hid (And.intro (And.intro (Nat.le_trans G1.size hg') hown) (And.intro hS2 (grown_trans G1 hg2)))
 clear HC H1 S1 G1 T1 hS2 hg2 hown hg'
 go_wp2_with fail
 go_quiet (fail)
 go_wp2_with fail
 go_ret
 exact ⟨⟨_, _, rfl, HO.out.1.1, own_below (HO.out.1.2.mono (Nat.zero_le _)) (below_drewN (Below.refl _ _) _)⟩, HO.out.2.1.below (below_drewN (Below.refl _ _) _), grown_trans HO.out.2.2 (grown_of_below (below_drewN (Below.refl _ _) _) _)⟩
theorem cmdCreate (rb g cc : Nat) (s : ByteArray) (n : Nat) (st en : Nat → Nat) (ks : Nat → Int) (w : World) (S : RdSt w rb g cc s n st en 0) (h0 : 0 < n) (hn : n ≤ 65536) (hv : s.extract (st 0) (en 0) = ⟨#[99, 114, 101, 97, 116, 101]⟩) (N : NumsAt s n st en 1 5 ks) (sv : Int) (wk : IntKind.u64.wrap (ks 4) = sv) (ht : Tab w) (h4 : 4 < rb) :
  Calls Tryz.prog 75 #[.pointer (some ⟨rb, 0, none⟩)] w fun e w' => e = .returned (.iface 152 (.agg #[.int .i64 (ks 0), .int .i64 (ks 1), .int .i64 (ks 2), .int .i64 (ks 3), .int .u64 sv])) ∧ RdSt w' rb g cc s n st en 6 ∧ w.grownBy w' (some rb) := by
 have HX := Lib.hid fun w S => hv ▸ next_any rb g cc s n st en 0 w S h0 hn
 have HN := Lib.hid N
 have hlr := lt_of_block S.hd
 have h4t := ht.lt
 have HT := Lib.hid ht
 clear N ht
 have q0 : w.cell? ⟨rb, 1, none⟩ = some (.int .i64 0) := cell_of_heap S.hd 1 _ rfl
 have HS := Lib.hid S
 go_enter Tryz.func75, Tryz.ntmps75
 go_wp2_with fail
 refine (HX.out _ S).mono ?_
 rintro e w1 ⟨rfl, hb1⟩
 have q1 : w1.cell? ⟨rb, 1, none⟩ = some (.int .i64 0) := cell_of_heap ((hb1.block _ hlr).trans S.hd) 1 _ rfl
 have f1 : w1.frozen? ⟨rb, 1, none⟩ = false := by simp [World.frozen?, (hb1.block _ hlr).trans S.hd]
 have hl1 : rb < w1.heap.size := Nat.lt_of_lt_of_le hlr hb1.size
 have S1 : RdSt (w1.setCell ⟨rb, 1, none⟩ (.int .i64 1)) rb g cc s n st en 1 := (S.below hb1).step 1 rfl
 have G1 : w.grownBy (w1.setCell ⟨rb, 1, none⟩ (.int .i64 1)) (some rb) := grown_trans (grown_of_below hb1 _) (grown_set _ _ _ _)
 have T1 : Tab (w1.setCell ⟨rb, 1, none⟩ (.int .i64 1)) := HT.out.keep (G1.block 4 h4t (by intro e; have := Option.some.inj e; omega))
 have H1 := Lib.hid (And.intro S1 (And.intro G1 T1))
 clear HX S hb1 S1 G1 T1 q0 HS hv
 go_wp2_with fail
 obtain ⟨W, hW⟩ : ∃ W, w1.setCell ⟨rb, 1, none⟩ (.int .i64 1) = W := ⟨_, rfl⟩
 rw [hW] at H1
 rw [hW]
 clear hW q1 f1 hl1
 obtain ⟨S1, G1, T1⟩ := H1.out
 have HC := Lib.hid (nums_any rb g cc s n st en 1 5 ks W S1 hn (by omega) (by omega) HN.out T1 h4)
 refine HC.out.mono ?_
 rintro e w2 ⟨⟨g', c', rfl, hg', hown⟩, hS2, hg2⟩
 have c0 : w2.cell? ⟨g', 0, none⟩ = some (.int .i64 (ks 0)) := hown.cellAt 0 (by omega)
 have c1 : w2.cell? ⟨g', 1, none⟩ = some (.int .i64 (ks 1)) := hown.cellAt 1 (by omega)
 have c2 : w2.cell? ⟨g', 2, none⟩ = some (.int .i64 (ks 2)) := hown.cellAt 2 (by omega)
 have c3 : w2.cell? ⟨g', 3, none⟩ = some (.int .i64 (ks 3)) := hown.cellAt 3 (by omega)
 have c4 : w2.cell? ⟨g', 4, none⟩ = some (.int .i64 (ks 4)) := hown.cellAt 4 (by omega)
 have hcc := own_cap hown
 have hcd : ¬ c' = 1 := by omega
 have hce : ¬ c' - 1 = 0 := by omega
 have HO := Lib.hid (And.intro (And.intro (Nat.le_trans G1.size hg') hown) (And.intro hS2 (grown_trans G1 hg2)))
 clear HC H1 S1 G1 T1 hS2 hg2 hown hg'
 go_wp2_with fail
 go_quiet (fail)
 go_wp2_with fail
 go_ret
 exact ⟨rfl, HO.out.2.1.below (below_drewN (Below.refl _ _) _), grown_trans HO.out.2.2 (grown_of_below (below_drewN (Below.refl _ _) _) _)⟩
theorem cmdAdd (rb g cc : Nat) (s : ByteArray) (n : Nat) (st en : Nat → Nat) (ks : Nat → Int) (w : World) (S : RdSt w rb g cc s n st en 0) (h0 : 0 < n) (hn : n ≤ 65536) (hv : s.extract (st 0) (en 0) = ⟨#[97, 100, 100]⟩) (N : NumsAt s n st en 1 3 ks) (hk : 0 ≤ ks 1) (hq : (s.extract (st 2) (en 2)).size < 2 ∨ bt (s.extract (st 2) (en 2)) 0 ≠ 34) (ht : Tab w) (h4 : 4 < rb) :
  Calls Tryz.prog 75 #[.pointer (some ⟨rb, 0, none⟩)] w fun e w' => e = .returned (.iface 162 (.agg #[.int .i64 (ks 0), .bool false, .string ⟨#[]⟩, .int .u64 (ks 1), .int .i64 (ks 2)])) ∧ RdSt w' rb g cc s n st en 4 ∧ w.grownBy w' (some rb) := by
 have HX := Lib.hid fun w S => hv ▸ next_any rb g cc s n st en 0 w S h0 hn
 have HN := Lib.hid N
 have hlr := lt_of_block S.hd
 have h4t := ht.lt
 have HT := Lib.hid ht
 clear N ht
 have q0 : w.cell? ⟨rb, 1, none⟩ = some (.int .i64 0) := cell_of_heap S.hd 1 _ rfl
 have HS := Lib.hid S
 go_enter Tryz.func75, Tryz.ntmps75
 go_wp2_with fail
 refine (HX.out _ S).mono ?_
 rintro e w1 ⟨rfl, hb1⟩
 have q1 : w1.cell? ⟨rb, 1, none⟩ = some (.int .i64 0) := cell_of_heap ((hb1.block _ hlr).trans S.hd) 1 _ rfl
 have f1 : w1.frozen? ⟨rb, 1, none⟩ = false := by simp [World.frozen?, (hb1.block _ hlr).trans S.hd]
 have hl1 : rb < w1.heap.size := Nat.lt_of_lt_of_le hlr hb1.size
 have S1 : RdSt (w1.setCell ⟨rb, 1, none⟩ (.int .i64 1)) rb g cc s n st en 1 := (S.below hb1).step 1 rfl
 have G1 : w.grownBy (w1.setCell ⟨rb, 1, none⟩ (.int .i64 1)) (some rb) := grown_trans (grown_of_below hb1 _) (grown_set _ _ _ _)
 have T1 : Tab (w1.setCell ⟨rb, 1, none⟩ (.int .i64 1)) := HT.out.keep (G1.block 4 h4t (by intro e; have := Option.some.inj e; omega))
 have H1 := Lib.hid (And.intro S1 (And.intro G1 T1))
 clear HX S hb1 S1 G1 T1 q0 HS hv
 go_wp2_with fail
 obtain ⟨W, hW⟩ : ∃ W, w1.setCell ⟨rb, 1, none⟩ (.int .i64 1) = W := ⟨_, rfl⟩
 rw [hW] at H1
 rw [hW]
 clear hW q1 f1 hl1
 obtain ⟨S1, G1, T1⟩ := H1.out
 have HC := Lib.hid (rdAdd_any rb g cc s n st en 1 ks W S1 hn HN.out hk hq T1 h4)
 clear hq
 refine HC.out.mono ?_
 rintro e w2 ⟨rfl, hS2, hg2⟩
 have H2 := Lib.hid (And.intro hS2 (grown_trans G1 hg2))
 clear HC H1 S1 G1 T1 hS2 hg2
 go_wp2_with fail
 go_ret
 exact ⟨rfl, H2.out⟩
end Go.Proofs.YtbhppbeepmllaaaGreatDoor

namespace Go.Proofs.YtbhppbeepmllaaaGreatDoor
open Go.RowKit

def joinW : List (List UInt8) → List UInt8
 | [] => []
 | [x] => x
 | x :: y :: r => x ++ 32 :: joinW (y :: r)
def stW : List (List UInt8) → Nat → Nat
 | [], _ => 0
 | _ :: _, 0 => 0
 | x :: r, j + 1 => x.length + 1 + stW r j
def wordW (ws : List (List UInt8)) (j : Nat) : List UInt8 := ws.getD j []
def enW (ws : List (List UInt8)) (j : Nat) : Nat := stW ws j + (wordW ws j).length
theorem joinW_cons (x : List UInt8) {r : List (List UInt8)} (h : r ≠ []) : joinW (x :: r) = x ++ 32 :: joinW r := by
 cases r with
 | nil => exact absurd rfl h
 | cons y r => rfl
theorem joinW_get : ∀ (ws : List (List UInt8)) (j i : Nat), j < ws.length → i < (wordW ws j).length → (joinW ws)[stW ws j + i]? = (wordW ws j)[i]?
 | [], j, i, h, _ => by simp at h
 | x :: r, 0, i, h, hi => by
  by_cases hr : r = []
  ·subst hr; simp [joinW, stW, wordW]
  ·rw [joinW_cons x hr]
   simp only [wordW, List.getD_cons_zero] at hi
   simp only [stW, Nat.zero_add, wordW, List.getD_cons_zero]
   rw [List.getElem?_append_left hi]
 | x :: r, j + 1, i, h, hi => by
  have hr : r ≠ [] := by intro e; subst e; simp at h
  rw [joinW_cons x hr]
  simp only [stW, wordW, List.getD_cons_succ]
  have := joinW_get r j i (by simpa using h) (by simpa [wordW] using hi)
  rw [List.getElem?_append_right (by omega), show x.length + 1 + stW r j + i - x.length = (stW r j + i) + 1 by omega, List.getElem?_cons_succ, this]
  rfl
theorem joinW_blank : ∀ (ws : List (List UInt8)) (j : Nat), j + 1 < ws.length → (joinW ws)[enW ws j]? = some 32
 | [], j, h => by simp at h
 | x :: r, 0, h => by
  have hr : r ≠ [] := by intro e; subst e; simp at h
  rw [joinW_cons x hr]
  simp [enW, stW, wordW]
 | x :: r, j + 1, h => by
  have hr : r ≠ [] := by intro e; subst e; simp at h
  rw [joinW_cons x hr]
  have := joinW_blank r j (by simpa using h)
  simp only [enW, stW, wordW, List.getD_cons_succ] at this ⊢
  rw [List.getElem?_append_right (by omega), show x.length + 1 + stW r j + (r.getD j []).length - x.length = (stW r j + (r.getD j []).length) + 1 by omega, List.getElem?_cons_succ, this]
theorem stW_next : ∀ (ws : List (List UInt8)) (j : Nat), j + 1 < ws.length → stW ws (j + 1) = enW ws j + 1
 | [], j, h => by simp at h
 | [x], j, h => by simp at h
 | x :: y :: r, 0, h => by simp [stW, enW, wordW]
 | x :: y :: r, j + 1, h => by
  have := stW_next (y :: r) j (by simpa using h)
  simp only [enW, wordW, List.getD_cons_succ] at this ⊢
  rw [stW, this, stW]; omega
theorem enW_last : ∀ (ws : List (List UInt8)), ws ≠ [] → enW ws (ws.length - 1) = (joinW ws).length
 | [], h => absurd rfl h
 | [x], _ => by simp [enW, stW, wordW, joinW]
 | x :: y :: r, _ => by
  have := enW_last (y :: r) (by simp)
  simp only [List.length_cons, Nat.add_sub_cancel] at this ⊢
  simp only [enW, wordW, List.getD_cons_succ, stW] at this ⊢
  rw [joinW_cons x (by simp), List.length_append, List.length_cons, ← this]; omega
def GoodW (x : List UInt8) : Prop := x ≠ [] ∧ (∀ b ∈ x, b.toNat ≠ 32 ∧ b.toNat ≠ 34 ∧ b.toNat < 128)
theorem good_itoa (n : Int) : GoodW (Lib.itoa n) := ⟨itoa_ne n, fun b hb => by rcases itoa_bytes n b hb with h | h <;> omega⟩
theorem joinW_bytes : ∀ (ws : List (List UInt8)), (∀ x ∈ ws, GoodW x) → ∀ b ∈ joinW ws, b.toNat < 128 ∧ b.toNat ≠ 34
 | [], _, b, hb => by simp [joinW] at hb
 | x :: r, hg, b, hb => by
  by_cases hr : r = []
  ·subst hr
   have := (hg x (by simp)).2 b (by simpa [joinW] using hb)
   omega
  ·rw [joinW_cons x hr] at hb
   rcases List.mem_append.1 hb with h | h
   ·have := (hg x (by simp)).2 b h; omega
   ·rcases List.mem_cons.1 h with rfl | h
    ·decide
    ·exact joinW_bytes r (fun y hy => hg y (by simp [hy])) b h
theorem bt_list {s : ByteArray} {l : List UInt8} (h : s.data.toList = l) {i : Nat} {b : UInt8} (hi : l[i]? = some b) : bt s i = b.toNat := by
 subst h
 have h1 : i < s.size := by
  rw [List.getElem?_eq_some_iff] at hi
  obtain ⟨h, _⟩ := hi
  simpa using h
 unfold bt
 rw [dif_pos h1]
 congr 1
 rw [List.getElem?_eq_some_iff] at hi
 obtain ⟨h, e⟩ := hi
 rw [← e]
 simp [ByteArray.getElem_eq_getElem_data]
theorem wordW_mem {ws : List (List UInt8)} {j : Nat} (h : j < ws.length) : wordW ws j ∈ ws := by
 unfold wordW
 rw [List.getD_eq_getElem?_getD, List.getElem?_eq_getElem h]
 simp
theorem words_at (ws : List (List UInt8)) (s : ByteArray) (hs : s.data.toList = joinW ws) (hne : ws ≠ []) (hg : ∀ x ∈ ws, GoodW x) : WordsAt s ws.length (stW ws) (enW ws) where
 pos := List.length_pos_iff.2 hne
 st0 := by cases ws with | nil => rfl | cons x r => rfl
 lt := fun j h => by
  have := (hg _ (wordW_mem h)).1
  have := List.length_pos_iff.2 this
  unfold enW; omega
 nx := fun j h => stW_next ws j h
 fin := by rw [enW_last ws hne, ← hs]; simp
 blank := fun j h => bt_list hs (joinW_blank ws j h)
 full := fun j h i h1 h2 => by
  have hi : i - stW ws j < (wordW ws j).length := by unfold enW at h2; omega
  have e := joinW_get ws j (i - stW ws j) h hi
  rw [show stW ws j + (i - stW ws j) = i by omega, List.getElem?_eq_getElem hi] at e
  rw [bt_list hs e]
  exact ((hg _ (wordW_mem h)).2 _ (List.getElem_mem hi)).1
 plain := fun j h => by
  have hi : 0 < (wordW ws j).length := List.length_pos_iff.2 (hg _ (wordW_mem h)).1
  have e := joinW_get ws j 0 h hi
  rw [Nat.add_zero, List.getElem?_eq_getElem hi] at e
  rw [bt_list hs e]
  exact ((hg _ (wordW_mem h)).2 _ (List.getElem_mem hi)).2.1
theorem asc_at (ws : List (List UInt8)) (s : ByteArray) (hs : s.data.toList = joinW ws) (hg : ∀ x ∈ ws, GoodW x) : Asc s := by
 intro i h
 have : s[i]'h ∈ joinW ws := by rw [← hs]; simp [ByteArray.getElem_eq_getElem_data]
 exact (joinW_bytes ws hg _ this).1
theorem word_ext (ws : List (List UInt8)) (s : ByteArray) (hs : s.data.toList = joinW ws) (j : Nat) (h : j < ws.length) : (s.extract (stW ws j) (enW ws j)).data.toList = wordW ws j := by
 have hsz : s.data.toList.length = s.size := by simp
 rw [ByteArray.data_extract, Array.toList_extract, hs]
 apply List.ext_getElem?
 intro i
 rw [List.extract_eq_take_drop, List.getElem?_take]
 split
 ·rename_i hi
  rw [List.getElem?_drop]
  exact joinW_get ws j i h (by unfold enW at hi; omega)
 ·rename_i hi
  rw [List.getElem?_eq_none (by unfold enW at hi; omega)]
theorem word_eq (ws : List (List UInt8)) (s : ByteArray) (hs : s.data.toList = joinW ws) (j : Nat) (h : j < ws.length) {v : ByteArray} (hv : v.data.toList = wordW ws j) : s.extract (stW ws j) (enW ws j) = v := by
 have := word_ext ws s hs j h
 apply ByteArray.ext
 apply Array.toList_inj.1
 rw [this, hv]
end Go.Proofs.YtbhppbeepmllaaaGreatDoor

namespace Go.Proofs.YtbhppbeepmllaaaGreatDoor
open Go.RowKit

theorem below_grown {B rb : Nat} {w a b : World} (h : Below B w a) (g : a.grownBy b (some rb)) (hw : B ≤ a.heap.size) (hr : B ≤ rb) : Below B w b :=
 ⟨g.os.trans h.os, g.tape.trans h.tape, g.output.trans h.output, Nat.le_trans h.size g.size, fun k hk => (g.block k (by omega) (by intro e; have := Option.some.inj e; omega)).trans (h.block k hk)⟩
theorem parse_any (s : ByteArray) (n : Nat) (st en : Nat → Nat) (Q : Value → World → Prop) (w : World) (WA : WordsAt s n st en) (ha : Asc s) (hs : s.size ≤ 65536) (hn : n ≤ 65536) (ht : Tab w)
  (HC : ∀ rb g cc w1, Below w.heap.size w w1 → RdSt w1 rb g cc s n st en 0 → Tab w1 → 4 < rb → Calls Tryz.prog 75 #[.pointer (some ⟨rb, 0, none⟩)] w1 fun e w' => (∃ v, e = .returned v ∧ Q v w') ∧ RdSt w' rb g cc s n st en n ∧ w1.grownBy w' (some rb))
  (HQ : ∀ v a b, Q v a → Below a.heap.size a b → Q v b) :
  Calls Tryz.prog 48 #[.string s] w fun e w' => (∃ v, e = .returned (.tuple #[v, .int .i64 0, .int .i64 0]) ∧ Q v w') ∧ Below w.heap.size w w' := by
 have H1 := Lib.hid fun w => torn_any s w ha hs
 have H2 := Lib.hid fun w => words_any s n st en w WA hs
 have hn0 := WA.pos
 have h4t := ht.lt
 have HT := Lib.hid ht
 have HC' := Lib.hid HC
 have HQ' := Lib.hid HQ
 have d0 : decide (65536 < (s.size : Int)) = false := by simp; omega
 have d1 : ((n : Int) == 0) = false := by simp; omega
 have d2 : ¬ (n : Int) = 0 := by omega
 clear WA ha hs ht HC HQ
 go_enter Tryz.func48, Tryz.ntmps48
 go_wp2_with fail
 refine (H1.out _).mono ?_
 rintro e w1 ⟨rfl, hb1⟩
 clear H1
 go_wp2_with fail
 refine (H2.out _).mono ?_
 rintro e w2 ⟨⟨g, cc, rfl, hown⟩, hb2⟩
 have kb := hb1.trans (hb2.mono hb1.size)
 have hz2 := kb.size
 have ka : Below w.heap.size w (w2.alloc (.cells #[.slice (some ⟨g, 0, none⟩) n cc, .int .i64 0, .int .i64 (-1), .int .i64 s.size] 149)) := kb.trans ((Below.refl _ _).alloc (by omega) _)
 have S : RdSt (w2.alloc (.cells #[.slice (some ⟨g, 0, none⟩) n cc, .int .i64 0, .int .i64 (-1), .int .i64 s.size] 149)) w2.heap.size g cc s n st en 0 := ⟨heap_alloc_at _ rfl, (own_below hown ((Below.refl _ _).alloc (Nat.le_refl _) _)).mono (Nat.zero_le _)⟩
 have HH := Lib.hid (And.intro S (And.intro ka (HT.out.below ka h4t)))
 have q0 := cell_of_heap S.hd 0 _ rfl
 have hl := lt_of_block S.hd
 clear H2 hown hb1 hb2 S ka kb
 go_wp2_with fail
 refine (HC'.out _ g cc _ HH.out.2.1 HH.out.1 HH.out.2.2 (by omega)).mono ?_
 rintro e w3 ⟨⟨v, rfl, hQ⟩, hS3, hg3⟩
 have k3 := below_grown HH.out.2.1 hg3 (by omega) (by omega)
 have c0 := cell_of_heap hS3.hd 0 _ rfl
 have c1 := cell_of_heap hS3.hd 1 _ rfl
 have c2 := cell_of_heap hS3.hd 2 _ rfl
 have HK := Lib.hid (And.intro hQ k3)
 clear hQ k3 hS3 hg3 HH HC' q0
 go_wp2_with fail
 go_quiet (fail)
 go_wp2_with fail
 have kd := below_drewN (Below.refl w3.heap.size w3) nq
 have kE : Below w.heap.size w (w3.drewN nq) := below_drewN HK.out.2 nq
 exact bodyPost_ret (v := .tuple #[v, .int .i64 0, .int .i64 0]) (by simp [results, Tryz.results48, go_sem]) rfl ⟨⟨_, rfl, HQ'.out _ _ _ HK.out.1 kd⟩, kE⟩
end Go.Proofs.YtbhppbeepmllaaaGreatDoor

namespace Go.Proofs.YtbhppbeepmllaaaGreatDoor
open Go.RowKit

def lineW (v : List UInt8) (m : Nat) (ks : Nat → Int) : List (List UInt8) := v :: (List.range m).map fun i => Lib.itoa (ks i)
theorem lineW_len (v : List UInt8) (m : Nat) (ks : Nat → Int) : (lineW v m ks).length = m + 1 := by simp [lineW]
theorem lineW_at (v : List UInt8) (m : Nat) (ks : Nat → Int) (i : Nat) (h : i < m) : wordW (lineW v m ks) (1 + i) = Lib.itoa (ks i) := by
 simp [wordW, lineW, Nat.add_comm 1 i, List.getD_eq_getElem?_getD, List.getElem?_map, List.getElem?_range h]
theorem joinW_le (c : Nat) : ∀ (ws : List (List UInt8)), (∀ x ∈ ws, x.length ≤ c) → (joinW ws).length ≤ ws.length * (c + 1)
 | [], _ => by simp [joinW]
 | x :: r, h => by
  have h1 := h x (by simp)
  have h2 := joinW_le c r (fun y hy => h y (by simp [hy]))
  by_cases hr : r = []
  ·subst hr; simp [joinW]; omega
  ·rw [joinW_cons x hr, List.length_append, List.length_cons, List.length_cons, Nat.succ_mul]; omega
theorem lineW_good (v : List UInt8) (m : Nat) (ks : Nat → Int) (hv : GoodW v) : ∀ x ∈ lineW v m ks, GoodW x := by
 intro x hx
 rcases List.mem_cons.1 hx with rfl | h
 ·exact hv
 ·obtain ⟨i, _, rfl⟩ := List.mem_map.1 h
  exact good_itoa _
structure LineOk (s : ByteArray) (v : ByteArray) (m : Nat) (ks : Nat → Int) (st en : Nat → Nat) : Prop where
 wa : WordsAt s (m + 1) st en
 asc : Asc s
 size : s.size ≤ 65536
 verb : s.extract (st 0) (en 0) = v
 nums : NumsAt s (m + 1) st en 1 m ks
theorem line_ok (s v : ByteArray) (m : Nat) (ks : Nat → Int) (hs : s.data.toList = joinW (lineW v.data.toList m ks)) (hv : GoodW v.data.toList) (hl : v.data.toList.length ≤ 20) (hm : m ≤ 10) (hb : ∀ i, i < m → -9223372036854775808 ≤ ks i ∧ ks i ≤ 9223372036854775807) :
  LineOk s v m ks (stW (lineW v.data.toList m ks)) (enW (lineW v.data.toList m ks)) := by
 have hg := lineW_good v.data.toList m ks hv
 have hL := lineW_len v.data.toList m ks
 refine ⟨?_, asc_at _ s hs hg, ?_, word_eq _ s hs 0 (by omega) (by simp [wordW, lineW]), by omega, hb, ?_⟩
 ·have := words_at _ s hs (by simp [lineW]) hg
  rwa [hL] at this
 ·have h1 := joinW_le 20 (lineW v.data.toList m ks) (by
   intro x hx
   rcases List.mem_cons.1 hx with rfl | h
   ·exact hl
   ·obtain ⟨i, hi, rfl⟩ := List.mem_map.1 h
    exact itoa_len _ (hb i (List.mem_range.1 hi)).1 (hb i (List.mem_range.1 hi)).2)
  rw [← hs, hL] at h1
  have h2 : s.data.toList.length = s.size := by simp
  rw [h2] at h1
  omega
 ·intro i hi
  rw [word_ext _ s hs (1 + i) (by omega), lineW_at _ _ _ _ hi]
theorem good_bytes {l : List UInt8} (h1 : l ≠ []) (h2 : (l.all fun b => b.toNat != 32 && b.toNat != 34 && decide (b.toNat < 128)) = true) : GoodW l := by
 refine ⟨h1, fun b hb => ?_⟩
 have := List.all_eq_true.1 h2 b hb
 simp at this
 omega
theorem bt_itoa {x : ByteArray} {k : Int} (h : x.data.toList = Lib.itoa k) : bt x 0 ≠ 34 := by
 have h0 := itoa_ne k
 cases hl : Lib.itoa k with
 | nil => exact absurd hl h0
 | cons b r =>
  rw [bt_list (h.trans hl) (i := 0) (b := b) (by simp)]
  have := itoa_bytes k b (by rw [hl]; simp)
  omega
theorem parseExport (s : ByteArray) (ks : Nat → Int) (w : World) (hs : s.data.toList = joinW (lineW [101, 120, 112, 111, 114, 116] 1 ks)) (hb : ∀ i, i < 1 → -9223372036854775808 ≤ ks i ∧ ks i ≤ 9223372036854775807) (ht : Tab w) :
  Calls Tryz.prog 48 #[.string s] w fun e w' => e = .returned (.tuple #[.iface 168 (.agg #[.string ⟨#[101, 120, 112, 111, 114, 116]⟩, .int .i64 (ks 0), .slice none 0 0]), .int .i64 0, .int .i64 0]) ∧ Below w.heap.size w w' := by
 have L := line_ok s ⟨#[101, 120, 112, 111, 114, 116]⟩ 1 ks hs (good_bytes (by decide) (by decide)) (by decide) (by omega) hb
 refine (parse_any s 2 _ _ (fun v w' => v = .iface 168 (.agg #[.string ⟨#[101, 120, 112, 111, 114, 116]⟩, .int .i64 (ks 0), .slice none 0 0])) w L.wa L.asc L.size (by omega) ht ?_ ?_).mono ?_
 ·intro rb g cc w1 hw1 S1 t1 h4
  refine (cmdExport rb g cc s 2 _ _ ks w1 S1 (by omega) (by omega) L.verb L.nums t1 h4).mono ?_
  rintro e w' ⟨he, h2⟩
  exact ⟨⟨_, he, rfl⟩, h2⟩
 ·intro v a b h _; exact h
 ·rintro e w' ⟨⟨v, he, hv⟩, hb⟩
  subst hv
  exact ⟨he, hb⟩
theorem parseInner (s : ByteArray) (ks : Nat → Int) (w : World) (hs : s.data.toList = joinW (lineW [105, 110, 110, 101, 114] 2 ks)) (hb : ∀ i, i < 2 → -9223372036854775808 ≤ ks i ∧ ks i ≤ 9223372036854775807) (ht : Tab w) :
  Calls Tryz.prog 48 #[.string s] w fun e w' => e = .returned (.tuple #[.iface 171 (.agg #[.string ⟨#[105, 110, 110, 101, 114]⟩, .int .i64 (ks 0), .int .i64 (ks 1)]), .int .i64 0, .int .i64 0]) ∧ Below w.heap.size w w' := by
 have L := line_ok s ⟨#[105, 110, 110, 101, 114]⟩ 2 ks hs (good_bytes (by decide) (by decide)) (by decide) (by omega) hb
 refine (parse_any s 3 _ _ (fun v w' => v = .iface 171 (.agg #[.string ⟨#[105, 110, 110, 101, 114]⟩, .int .i64 (ks 0), .int .i64 (ks 1)])) w L.wa L.asc L.size (by omega) ht ?_ ?_).mono ?_
 ·intro rb g cc w1 hw1 S1 t1 h4
  refine (cmdInner rb g cc s 3 _ _ ks w1 S1 (by omega) (by omega) L.verb L.nums t1 h4).mono ?_
  rintro e w' ⟨he, h2⟩
  exact ⟨⟨_, he, rfl⟩, h2⟩
 ·intro v a b h _; exact h
 ·rintro e w' ⟨⟨v, he, hv⟩, hb⟩
  subst hv
  exact ⟨he, hb⟩
theorem parseMerge (s : ByteArray) (ks : Nat → Int) (w : World) (hs : s.data.toList = joinW (lineW [109, 101, 114, 103, 101] 2 ks)) (hb : ∀ i, i < 2 → -9223372036854775808 ≤ ks i ∧ ks i ≤ 9223372036854775807) (ht : Tab w) :
  Calls Tryz.prog 48 #[.string s] w fun e w' => e = .returned (.tuple #[.iface 171 (.agg #[.string ⟨#[109, 101, 114, 103, 101]⟩, .int .i64 (ks 0), .int .i64 (ks 1)]), .int .i64 0, .int .i64 0]) ∧ Below w.heap.size w w' := by
 have L := line_ok s ⟨#[109, 101, 114, 103, 101]⟩ 2 ks hs (good_bytes (by decide) (by decide)) (by decide) (by omega) hb
 refine (parse_any s 3 _ _ (fun v w' => v = .iface 171 (.agg #[.string ⟨#[109, 101, 114, 103, 101]⟩, .int .i64 (ks 0), .int .i64 (ks 1)])) w L.wa L.asc L.size (by omega) ht ?_ ?_).mono ?_
 ·intro rb g cc w1 hw1 S1 t1 h4
  refine (cmdMerge rb g cc s 3 _ _ ks w1 S1 (by omega) (by omega) L.verb L.nums t1 h4).mono ?_
  rintro e w' ⟨he, h2⟩
  exact ⟨⟨_, he, rfl⟩, h2⟩
 ·intro v a b h _; exact h
 ·rintro e w' ⟨⟨v, he, hv⟩, hb⟩
  subst hv
  exact ⟨he, hb⟩
theorem parseSub (s : ByteArray) (ks : Nat → Int) (w : World) (hs : s.data.toList = joinW (lineW [115, 117, 98, 116, 114, 97, 99, 116] 2 ks)) (hb : ∀ i, i < 2 → -9223372036854775808 ≤ ks i ∧ ks i ≤ 9223372036854775807) (ht : Tab w) :
  Calls Tryz.prog 48 #[.string s] w fun e w' => e = .returned (.tuple #[.iface 171 (.agg #[.string ⟨#[115, 117, 98, 116, 114, 97, 99, 116]⟩, .int .i64 (ks 0), .int .i64 (ks 1)]), .int .i64 0, .int .i64 0]) ∧ Below w.heap.size w w' := by
 have L := line_ok s ⟨#[115, 117, 98, 116, 114, 97, 99, 116]⟩ 2 ks hs (good_bytes (by decide) (by decide)) (by decide) (by omega) hb
 refine (parse_any s 3 _ _ (fun v w' => v = .iface 171 (.agg #[.string ⟨#[115, 117, 98, 116, 114, 97, 99, 116]⟩, .int .i64 (ks 0), .int .i64 (ks 1)])) w L.wa L.asc L.size (by omega) ht ?_ ?_).mono ?_
 ·intro rb g cc w1 hw1 S1 t1 h4
  refine (cmdSub rb g cc s 3 _ _ ks w1 S1 (by omega) (by omega) L.verb L.nums t1 h4).mono ?_
  rintro e w' ⟨he, h2⟩
  exact ⟨⟨_, he, rfl⟩, h2⟩
 ·intro v a b h _; exact h
 ·rintro e w' ⟨⟨v, he, hv⟩, hb⟩
  subst hv
  exact ⟨he, hb⟩
theorem parseQuantile (s : ByteArray) (ks : Nat → Int) (w : World) (hs : s.data.toList = joinW (lineW [113, 117, 97, 110, 116, 105, 108, 101] 2 ks)) (hb : ∀ i, i < 2 → -9223372036854775808 ≤ ks i ∧ ks i ≤ 9223372036854775807) (ht : Tab w) :
  Calls Tryz.prog 48 #[.string s] w fun e w' => (∃ g' c', e = .returned (.tuple #[.iface 168 (.agg #[.string ⟨#[113, 117, 97, 110, 116, 105, 108, 101]⟩, .int .i64 (ks 0), .slice (some ⟨g', 1, none⟩) 1 (c' - 1)]), .int .i64 0, .int .i64 0]) ∧ w.heap.size ≤ g' ∧ w'.ownsRow 0 2 1 (.slice (some ⟨g', 0, none⟩) 2 c') 2 (i64s ((List.range 2).map ks))) ∧ Below w.heap.size w w' := by
 have L := line_ok s ⟨#[113, 117, 97, 110, 116, 105, 108, 101]⟩ 2 ks hs (good_bytes (by decide) (by decide)) (by decide) (by omega) hb
 refine (parse_any s 3 _ _ (fun v w' => ∃ g' c', v = .iface 168 (.agg #[.string ⟨#[113, 117, 97, 110, 116, 105, 108, 101]⟩, .int .i64 (ks 0), .slice (some ⟨g', 1, none⟩) 1 (c' - 1)]) ∧ w.heap.size ≤ g' ∧ w'.ownsRow 0 2 1 (.slice (some ⟨g', 0, none⟩) 2 c') 2 (i64s ((List.range 2).map ks))) w L.wa L.asc L.size (by omega) ht ?_ ?_).mono ?_
 ·intro rb g cc w1 hw1 S1 t1 h4
  refine (cmdQuantile rb g cc s 3 _ _ ks w1 S1 (by omega) (by omega) L.verb L.nums t1 h4).mono ?_
  rintro e w' ⟨⟨g', c', he, hg, ho⟩, h2⟩
  exact ⟨⟨_, he, g', c', rfl, Nat.le_trans hw1.size hg, ho⟩, h2⟩
 ·rintro v a b ⟨g', c', he, hg, ho⟩ hb
  exact ⟨g', c', he, hg, own_below ho hb⟩
 ·rintro e w' ⟨⟨v, he, g', c', hv, hg, ho⟩, hb⟩
  subst hv
  exact ⟨⟨g', c', he, hg, ho⟩, hb⟩
theorem parsePoint (s : ByteArray) (ks : Nat → Int) (w : World) (hs : s.data.toList = joinW (lineW [112, 111, 105, 110, 116] 3 ks)) (hb : ∀ i, i < 3 → -9223372036854775808 ≤ ks i ∧ ks i ≤ 9223372036854775807) (ht : Tab w) :
  Calls Tryz.prog 48 #[.string s] w fun e w' => (∃ g' c', e = .returned (.tuple #[.iface 168 (.agg #[.string ⟨#[112, 111, 105, 110, 116]⟩, .int .i64 (ks 0), .slice (some ⟨g', 1, none⟩) 2 (c' - 1)]), .int .i64 0, .int .i64 0]) ∧ w.heap.size ≤ g' ∧ w'.ownsRow 0 2 1 (.slice (some ⟨g', 0, none⟩) 3 c') 3 (i64s ((List.range 3).map ks))) ∧ Below w.heap.size w w' := by
 have L := line_ok s ⟨#[112, 111, 105, 110, 116]⟩ 3 ks hs (good_bytes (by decide) (by decide)) (by decide) (by omega) hb
 refine (parse_any s 4 _ _ (fun v w' => ∃ g' c', v = .iface 168 (.agg #[.string ⟨#[112, 111, 105, 110, 116]⟩, .int .i64 (ks 0), .slice (some ⟨g', 1, none⟩) 2 (c' - 1)]) ∧ w.heap.size ≤ g' ∧ w'.ownsRow 0 2 1 (.slice (some ⟨g', 0, none⟩) 3 c') 3 (i64s ((List.range 3).map ks))) w L.wa L.asc L.size (by omega) ht ?_ ?_).mono ?_
 ·intro rb g cc w1 hw1 S1 t1 h4
  refine (cmdPoint rb g cc s 4 _ _ ks w1 S1 (by omega) (by omega) L.verb L.nums t1 h4).mono ?_
  rintro e w' ⟨⟨g', c', he, hg, ho⟩, h2⟩
  exact ⟨⟨_, he, g', c', rfl, Nat.le_trans hw1.size hg, ho⟩, h2⟩
 ·rintro v a b ⟨g', c', he, hg, ho⟩ hb
  exact ⟨g', c', he, hg, own_below ho hb⟩
 ·rintro e w' ⟨⟨v, he, g', c', hv, hg, ho⟩, hb⟩
  subst hv
  exact ⟨⟨g', c', he, hg, ho⟩, hb⟩
theorem parseRange (s : ByteArray) (ks : Nat → Int) (w : World) (hs : s.data.toList = joinW (lineW [114, 97, 110, 103, 101] 3 ks)) (hb : ∀ i, i < 3 → -9223372036854775808 ≤ ks i ∧ ks i ≤ 9223372036854775807) (ht : Tab w) :
  Calls Tryz.prog 48 #[.string s] w fun e w' => (∃ g' c', e = .returned (.tuple #[.iface 168 (.agg #[.string ⟨#[114, 97, 110, 103, 101]⟩, .int .i64 (ks 0), .slice (some ⟨g', 1, none⟩) 2 (c' - 1)]), .int .i64 0, .int .i64 0]) ∧ w.heap.size ≤ g' ∧ w'.ownsRow 0 2 1 (.slice (some ⟨g', 0, none⟩) 3 c') 3 (i64s ((List.range 3).map ks))) ∧ Below w.heap.size w w' := by
 have L := line_ok s ⟨#[114, 97, 110, 103, 101]⟩ 3 ks hs (good_bytes (by decide) (by decide)) (by decide) (by omega) hb
 refine (parse_any s 4 _ _ (fun v w' => ∃ g' c', v = .iface 168 (.agg #[.string ⟨#[114, 97, 110, 103, 101]⟩, .int .i64 (ks 0), .slice (some ⟨g', 1, none⟩) 2 (c' - 1)]) ∧ w.heap.size ≤ g' ∧ w'.ownsRow 0 2 1 (.slice (some ⟨g', 0, none⟩) 3 c') 3 (i64s ((List.range 3).map ks))) w L.wa L.asc L.size (by omega) ht ?_ ?_).mono ?_
 ·intro rb g cc w1 hw1 S1 t1 h4
  refine (cmdRange rb g cc s 4 _ _ ks w1 S1 (by omega) (by omega) L.verb L.nums t1 h4).mono ?_
  rintro e w' ⟨⟨g', c', he, hg, ho⟩, h2⟩
  exact ⟨⟨_, he, g', c', rfl, Nat.le_trans hw1.size hg, ho⟩, h2⟩
 ·rintro v a b ⟨g', c', he, hg, ho⟩ hb
  exact ⟨g', c', he, hg, own_below ho hb⟩
 ·rintro e w' ⟨⟨v, he, g', c', hv, hg, ho⟩, hb⟩
  subst hv
  exact ⟨⟨g', c', he, hg, ho⟩, hb⟩
theorem parseHeavy (s : ByteArray) (ks : Nat → Int) (w : World) (hs : s.data.toList = joinW (lineW [104, 101, 97, 118, 121] 3 ks)) (hb : ∀ i, i < 3 → -9223372036854775808 ≤ ks i ∧ ks i ≤ 9223372036854775807) (ht : Tab w) :
  Calls Tryz.prog 48 #[.string s] w fun e w' => (∃ g' c', e = .returned (.tuple #[.iface 168 (.agg #[.string ⟨#[104, 101, 97, 118, 121]⟩, .int .i64 (ks 0), .slice (some ⟨g', 1, none⟩) 2 (c' - 1)]), .int .i64 0, .int .i64 0]) ∧ w.heap.size ≤ g' ∧ w'.ownsRow 0 2 1 (.slice (some ⟨g', 0, none⟩) 3 c') 3 (i64s ((List.range 3).map ks))) ∧ Below w.heap.size w w' := by
 have L := line_ok s ⟨#[104, 101, 97, 118, 121]⟩ 3 ks hs (good_bytes (by decide) (by decide)) (by decide) (by omega) hb
 refine (parse_any s 4 _ _ (fun v w' => ∃ g' c', v = .iface 168 (.agg #[.string ⟨#[104, 101, 97, 118, 121]⟩, .int .i64 (ks 0), .slice (some ⟨g', 1, none⟩) 2 (c' - 1)]) ∧ w.heap.size ≤ g' ∧ w'.ownsRow 0 2 1 (.slice (some ⟨g', 0, none⟩) 3 c') 3 (i64s ((List.range 3).map ks))) w L.wa L.asc L.size (by omega) ht ?_ ?_).mono ?_
 ·intro rb g cc w1 hw1 S1 t1 h4
  refine (cmdHeavy rb g cc s 4 _ _ ks w1 S1 (by omega) (by omega) L.verb L.nums t1 h4).mono ?_
  rintro e w' ⟨⟨g', c', he, hg, ho⟩, h2⟩
  exact ⟨⟨_, he, g', c', rfl, Nat.le_trans hw1.size hg, ho⟩, h2⟩
 ·rintro v a b ⟨g', c', he, hg, ho⟩ hb
  exact ⟨g', c', he, hg, own_below ho hb⟩
 ·rintro e w' ⟨⟨v, he, g', c', hv, hg, ho⟩, hb⟩
  subst hv
  exact ⟨⟨g', c', he, hg, ho⟩, hb⟩
theorem parseCreate (s : ByteArray) (ks : Nat → Int) (w : World) (hs : s.data.toList = joinW (lineW [99, 114, 101, 97, 116, 101] 5 ks)) (hb : ∀ i, i < 5 → -9223372036854775808 ≤ ks i ∧ ks i ≤ 9223372036854775807) (sv : Int) (wk : IntKind.u64.wrap (ks 4) = sv) (ht : Tab w) :
  Calls Tryz.prog 48 #[.string s] w fun e w' => e = .returned (.tuple #[.iface 152 (.agg #[.int .i64 (ks 0), .int .i64 (ks 1), .int .i64 (ks 2), .int .i64 (ks 3), .int .u64 sv]), .int .i64 0, .int .i64 0]) ∧ Below w.heap.size w w' := by
 have L := line_ok s ⟨#[99, 114, 101, 97, 116, 101]⟩ 5 ks hs (good_bytes (by decide) (by decide)) (by decide) (by omega) hb
 refine (parse_any s 6 _ _ (fun v w' => v = .iface 152 (.agg #[.int .i64 (ks 0), .int .i64 (ks 1), .int .i64 (ks 2), .int .i64 (ks 3), .int .u64 sv])) w L.wa L.asc L.size (by omega) ht ?_ ?_).mono ?_
 ·intro rb g cc w1 hw1 S1 t1 h4
  refine (cmdCreate rb g cc s 6 _ _ ks w1 S1 (by omega) (by omega) L.verb L.nums sv wk t1 h4).mono ?_
  rintro e w' ⟨he, h2⟩
  exact ⟨⟨_, he, rfl⟩, h2⟩
 ·intro v a b h _; exact h
 ·rintro e w' ⟨⟨v, he, hv⟩, hb⟩
  subst hv
  exact ⟨he, hb⟩
theorem parseAdd (s : ByteArray) (ks : Nat → Int) (w : World) (hs : s.data.toList = joinW (lineW [97, 100, 100] 3 ks)) (hb : ∀ i, i < 3 → -9223372036854775808 ≤ ks i ∧ ks i ≤ 9223372036854775807) (hk : 0 ≤ ks 1) (ht : Tab w) :
  Calls Tryz.prog 48 #[.string s] w fun e w' => e = .returned (.tuple #[.iface 162 (.agg #[.int .i64 (ks 0), .bool false, .string ⟨#[]⟩, .int .u64 (ks 1), .int .i64 (ks 2)]), .int .i64 0, .int .i64 0]) ∧ Below w.heap.size w w' := by
 have L := line_ok s ⟨#[97, 100, 100]⟩ 3 ks hs (good_bytes (by decide) (by decide)) (by decide) (by omega) hb
 refine (parse_any s 4 _ _ (fun v w' => v = .iface 162 (.agg #[.int .i64 (ks 0), .bool false, .string ⟨#[]⟩, .int .u64 (ks 1), .int .i64 (ks 2)])) w L.wa L.asc L.size (by omega) ht ?_ ?_).mono ?_
 ·intro rb g cc w1 hw1 S1 t1 h4
  refine (cmdAdd rb g cc s 4 _ _ ks w1 S1 (by omega) (by omega) L.verb L.nums hk (.inr (bt_itoa (L.nums.is 1 (by omega)))) t1 h4).mono ?_
  rintro e w' ⟨he, h2⟩
  exact ⟨⟨_, he, rfl⟩, h2⟩
 ·intro v a b h _; exact h
 ·rintro e w' ⟨⟨v, he, hv⟩, hb⟩
  subst hv
  exact ⟨he, hb⟩
end Go.Proofs.YtbhppbeepmllaaaGreatDoor
