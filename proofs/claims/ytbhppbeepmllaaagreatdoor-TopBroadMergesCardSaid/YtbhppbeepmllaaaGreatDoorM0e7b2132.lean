import Derived.Test.YtbhppbeepmllaaaGreatDoorMb01fb118
import Derived.Maps.OwnSet
import Derived.Maps.Views
set_option linter.unusedVariables false
set_option linter.unusedSimpArgs false
set_option maxRecDepth 100000
set_option maxHeartbeats 2000000
namespace Go.Proofs.YtbhppbeepmllaaaGreatDoor
open Go.RowKit

def thing (a : Nat) : Value := .agg #[.pointer (some ⟨a, 0, none⟩), .pointer none]
theorem thing_inj {a b : Nat} (h : thing a = thing b) : a = b := by
 simp [thing] at h; exact h
open Classical in
noncomputable def thingR (v : Value) : Option (DataW Unit × List MemPlace) :=
 if h : ∃ a, v = thing a then some (.lit (.int .i64 (h.choose : Int)), []) else if v = .agg #[.pointer none, .pointer none] then some (.lit (.int .i64 (-1)), []) else none
theorem thingR_of (a : Nat) : thingR (thing a) = some (.lit (.int .i64 (a : Int)), []) := by
 have h : ∃ b, thing a = thing b := ⟨a, rfl⟩
 unfold thingR
 rw [dif_pos h, ← thing_inj h.choose_spec]
theorem thingR_zero : thingR (.agg #[.pointer none, .pointer none]) = some (.lit (.int .i64 (-1)), []) := by
 have h : ¬ ∃ b, Value.agg #[.pointer none, .pointer none] = thing b := by rintro ⟨b, h⟩; simp [thing] at h
 unfold thingR
 rw [dif_neg h, if_pos rfl]
theorem thingR_inv {v : Value} {a : Nat} {ps : List MemPlace} (h : thingR v = some (.lit (.int .i64 (a : Int)), ps)) : v = thing a := by
 unfold thingR at h
 split at h
 ·rename_i hx
  simp at h
  have h2 := hx.choose_spec
  have : hx.choose = a := by omega
  rw [this] at h2
  exact h2
 ·split at h
  ·simp at h
  ·cases h
theorem keyed3 : Maps.Keyed Tryz.prog 3 := Maps.int_keyed Tryz.underlying3
theorem zero156 (w : World) : (zeroValue 156).run Tryz.prog w = .ok (.agg #[.pointer none, .pointer none]) w := by kernel_rfl
structure MapOk (w : World) (mb n : Nat) (sd : Nat → Nat) : Prop where
 ex : ∃ D : DataW Unit, w.ownsMap Tryz.prog 3 thingR mb n D ∧ ∀ h, 1 ≤ h → h ≤ n → Maps.has D (.int .i64 (h : Int)) = true ∧ ∀ z, D.atKey (.int .i64 (h : Int)) z = .lit (.int .i64 (sd h : Int))
theorem wf_small {h : Nat} (hh : h ≤ 32) : (Lit.int .i64 (h : Int)).wf = true := by
 have h1 : IntKind.i64.min = -9223372036854775808 := by decide
 have h2 : IntKind.i64.max = 9223372036854775807 := by decide
 simp [Lit.wf, h1, h2]; omega
theorem MapOk.look {w : World} {mb n : Nat} {sd : Nat → Nat} (M : MapOk w mb n sd) (hn : n ≤ 32) (h : Nat) (h1 : 1 ≤ h) (h2 : h ≤ n) :
  (Instr.lookup 215 (.map (some mb)) (.int .i64 (h : Int)) true).run Tryz.prog w = .ok (.tuple #[.agg #[.pointer (some ⟨sd h, 0, none⟩), .pointer none], .bool true]) w := by
 obtain ⟨D, hO, hD⟩ := M.ex
 obtain ⟨e1, e2⟩ := hD h h1 h2
 obtain ⟨v, ps, hr, hv⟩ := hO.look_ok keyed3 Tryz.underlying215 (zero156 w) (zd := .lit (.int .i64 (-1))) (zp := []) thingR_zero (Maps.keyOf_int_mk Tryz.underlying3 (wf_small (h := h) (by omega)))
 rw [e2] at hv
 rw [e1, thingR_inv hv] at hr
 exact hr
theorem MapOk.len {w : World} {mb n : Nat} {sd : Nat → Nat} (M : MapOk w mb n sd) : ∃ k : Nat, k ≤ n ∧ (Builtin.len_ #[215] 3 #[.map (some mb)]).run Tryz.prog w = .ok (.int .i64 k) w := by
 obtain ⟨D, hO, hD⟩ := M.ex
 exact ⟨_, hO.size_le, hO.len Tryz.underlying215 3⟩
theorem MapOk.kept {w w' : World} {mb n : Nat} {sd : Nat → Nat} (M : MapOk w mb n sd) {row : Option Nat} (hg : w.grownBy w' row) (hne : some mb ≠ row) : MapOk w' mb n sd := by
 obtain ⟨D, hO, hD⟩ := M.ex
 exact ⟨D, hO.kept hg hne, hD⟩
theorem MapOk.lt {w : World} {mb n : Nat} {sd : Nat → Nat} (M : MapOk w mb n sd) : mb < w.heap.size := by
 obtain ⟨D, hO, hD⟩ := M.ex
 exact hO.lt
theorem MapOk.same {w w' : World} {mb n : Nat} {sd : Nat → Nat} (M : MapOk w mb n sd) (hb : w'.heap[mb]? = w.heap[mb]?) : MapOk w' mb n sd := by
 obtain ⟨D, ⟨es, clock, h1, h2⟩, hD⟩ := M.ex
 exact ⟨D, ⟨es, clock, hb.trans h1, h2⟩, hD⟩
theorem MapOk.put {w : World} {mb n : Nat} {sd : Nat → Nat} (M : MapOk w mb n sd) (p : Nat) {w' : World} {D : DataW Unit} (hD : w.ownsMap Tryz.prog 3 thingR mb n D) (hh : ∀ h, 1 ≤ h → h ≤ n → Maps.has D (.int .i64 (h : Int)) = true ∧ ∀ z, D.atKey (.int .i64 (h : Int)) z = .lit (.int .i64 (sd h : Int)))
  (hO : w'.ownsMap Tryz.prog 3 thingR mb (n + 1) (D.put (.int .i64 ((n + 1 : Nat) : Int)) (.lit (.int .i64 (p : Int))))) : MapOk w' mb (n + 1) (fun h => if h = n + 1 then p else sd h) := by
 refine ⟨_, hO, fun h h1 h2 => ?_⟩
 by_cases e : h = n + 1
 ·subst e
  simp only [if_true]
  exact ⟨Maps.has_put_same hD.isMap (by simp [WideAt.IsKeyLit]) _, fun z => Maps.atKey_put_same hD.isMap (by simp [WideAt.IsKeyLit]) _ z⟩
 ·have ne : (Lit.int .i64 (h : Int)) ≠ Lit.int .i64 ((n + 1 : Nat) : Int) := by
   intro he; simp only [Lit.int.injEq, true_and] at he; omega
  simp only [if_neg e]
  obtain ⟨a1, a2⟩ := hh h h1 (by omega)
  exact ⟨(Maps.has_put_other ne _).trans a1, fun z => (Maps.atKey_put_other ne _ z).trans (a2 z)⟩
structure AggSt (w : World) (ag mb n : Nat) (sd : Nat → Nat) : Prop where
 hd : w.heap[ag]? = some (.cells #[.map (some mb), .int .i64 n] 217 (0, 0))
 map : MapOk w mb n sd
theorem AggSt.ne {w : World} {ag mb n : Nat} {sd : Nat → Nat} (A : AggSt w ag mb n sd) : ag ≠ mb := by
 intro e
 obtain ⟨D, ⟨es, clock, h1, h2⟩, hD⟩ := A.map.ex
 rw [← e, A.hd] at h1
 cases h1
theorem done_any (w : World) : Calls Tryz.prog 110 #[.int .i64 0] w fun e w' => e = .returned (.tuple #[.iface 178 (.agg #[]), .int .i64 0]) ∧ w = w' := by
 go_enter Tryz.func110, Tryz.ntmps110
 go_wp2
 go_ret2
 exact ⟨rfl, rfl⟩
theorem number_any (n : Int) (w : World) : Calls Tryz.prog 119 #[.int .i64 n, .int .i64 0] w fun e w' => e = .returned (.tuple #[.iface 182 (.agg #[.int .i64 n]), .int .i64 0]) ∧ w = w' := by
 go_enter Tryz.func119, Tryz.ntmps119
 go_wp2
 go_ret2
 exact ⟨rfl, rfl⟩
theorem new_any (w : World) : Calls Tryz.prog 70 #[] w fun e w' => e = .returned (.pointer (some ⟨w.heap.size + 1, 0, none⟩)) ∧ AggSt w' (w.heap.size + 1) w.heap.size 0 (fun _ => 0) ∧ Below w.heap.size w w' := by
 have h0 := World.ownsMap_made w Tryz.prog 3 thingR
 have hb : Below w.heap.size w ((w.alloc (.map #[] 0)).alloc (.cells #[.map (some w.heap.size), .int .i64 0] 217)) := ((Below.refl _ _).alloc (Nat.le_refl _) _).alloc (by simp) _
 have A : AggSt ((w.alloc (.map #[] 0)).alloc (.cells #[.map (some w.heap.size), .int .i64 0] 217)) (w.heap.size + 1) w.heap.size 0 (fun _ => 0) := ⟨heap_alloc_at _ (by simp), ⟨_, h0.alloc _, fun h h1 h2 => by omega⟩⟩
 have HA := Lib.hid (And.intro A hb)
 clear h0 A hb
 have hmm := @run_makeMap Tryz.prog
 go_enter Tryz.func70, Tryz.ntmps70
 go_wp2
 go_ret
 exact ⟨by simp, HA.out⟩
theorem made_any (ag mb n : Nat) (sd : Nat → Nat) (p : Nat) (w : World) (A : AggSt w ag mb n sd) (hn : n ≤ 31) :
  Calls Tryz.prog 78 #[.pointer (some ⟨ag, 0, none⟩), .agg #[.pointer (some ⟨p, 0, none⟩), .pointer none], .int .i64 0] w fun e w' => e = .returned (.tuple #[.iface 180 (.agg #[.int .i64 ((n + 1 : Nat) : Int)]), .int .i64 0]) ∧ AggSt w' ag mb (n + 1) (fun h => if h = n + 1 then p else sd h) ∧ Upd (fun k => k = ag ∨ k = mb) w w' := by
 obtain ⟨n1, hn1⟩ : ∃ n1, n + 1 = n1 := ⟨_, rfl⟩
 simp only [hn1]
 have hne := A.ne
 have hlr := lt_of_block A.hd
 have hlm := A.map.lt
 obtain ⟨W1, hW1⟩ : ∃ W1, w.alloc (.cells #[.pointer (some ⟨p, 0, none⟩), .pointer none] 156) = W1 := ⟨_, rfl⟩
 have hz1 : W1.heap.size = w.heap.size + 1 := by rw [← hW1]; simp
 have b1 : Below w.heap.size w W1 := by rw [← hW1]; exact (Below.refl _ _).alloc (Nat.le_refl _) _
 have x1 : W1.heap[w.heap.size]? = some (.cells #[.pointer (some ⟨p, 0, none⟩), .pointer none] 156 (0, 0)) := by rw [← hW1]; exact heap_alloc_at _ rfl
 have a1 := (b1.block _ hlr).trans A.hd
 have M1 := A.map.same (b1.block _ hlm)
 obtain ⟨k, hk, hlen⟩ := M1.len
 have d0 : decide ((32 : Int) ≤ k) = false := by simp; omega
 have q0 : W1.cell? ⟨ag, 0, none⟩ = some (.map (some mb)) := cell_of_heap a1 0 _ rfl
 have q1 : W1.cell? ⟨ag, 1, none⟩ = some (.int .i64 n) := cell_of_heap a1 1 _ rfl
 have hf : W1.frozen? ⟨ag, 1, none⟩ = false := by simp [World.frozen?, a1]
 have u1 : IntKind.i64.wrap ((n : Int) + 1) = (n1 : Int) := by rw [IntKind.wrap_i64]; omega
 have hn2 : n1 ≤ 32 := by omega
 have HN := Lib.hid hn1
 clear hn1
 have hl1 : ag < W1.heap.size := by omega
 have HA := Lib.hid (And.intro A (And.intro b1 (And.intro M1 hz1)))
 have X1 := Lib.hid (And.intro x1 a1)
 clear A b1 M1 hz1 x1 a1 hk hlm
 go_enter Tryz.func78, Tryz.ntmps78
 go_wp2_with fail
 obtain ⟨W2, hW2⟩ : ∃ W2, W1.setCell ⟨ag, 1, none⟩ (.int .i64 (n1 : Int)) = W2 := ⟨_, rfl⟩
 rw [hW2]
 obtain ⟨x1, a1⟩ := X1.out
 obtain ⟨A, b1, M1, hz1⟩ := HA.out
 have g2 : W1.grownBy W2 (some ag) := by rw [← hW2]; exact grown_set _ _ _ _
 have a2 : W2.heap[ag]? = some (.cells #[.map (some mb), .int .i64 (n1 : Int)] 217 (0, 0)) := by rw [← hW2]; simpa using heap_setCell_same _ _ 1 _ _ (.int .i64 (n1 : Int)) a1
 have x2 := (g2.block _ (lt_of_block x1) (by intro e; have : w.heap.size = ag := Option.some.inj e; omega)).trans x1
 have M2 := M1.kept g2 (by intro e; exact hne (Option.some.inj e).symm)
 have hz2 : W2.heap.size = w.heap.size + 1 := by rw [← hW2]; simpa using hz1
 have U2 : Upd (fun k => k = ag ∨ k = mb) w W2 := (Upd.of_below b1).trans (Upd.of_grown g2 (.inl rfl))
 have q0' : W2.cell? ⟨ag, 0, none⟩ = some (.map (some mb)) := cell_of_heap a2 0 _ rfl
 have q1' : W2.cell? ⟨ag, 1, none⟩ = some (.int .i64 (n1 : Int)) := cell_of_heap a2 1 _ rfl
 have y0' : W2.cell? ⟨w.heap.size, 0, none⟩ = some (.pointer (some ⟨p, 0, none⟩)) := cell_of_heap x2 0 _ rfl
 have y1' : W2.cell? ⟨w.heap.size, 1, none⟩ = some (.pointer none) := cell_of_heap x2 1 _ rfl
 have hx2 := lt_of_block x2
 have ha2 := lt_of_block a2
 have HH := Lib.hid (And.intro a2 (And.intro M2 (And.intro hz2 U2)))
 clear hW2 x1 a1 A b1 M1 hz1 g2 a2 x2 M2 U2 hz2 HA X1 hlen d0 q0 q1 hf u1 hW1 hl1
 refine wp_region_mixA W2.heap.size [0, 1, 2, 3, 4, 5, 6, 7, 8] [9] (by kernel_rfl) (by kernel_rfl) rfl ?_
 simp only [opsAt, List.map_cons, List.map_nil, List.getElem?_toArray, List.getElem?_cons_zero, List.getElem?_cons_succ, Option.getD_some]
 have r0 := fun k : After W2.heap.size W2 => k.cell ha2 q0'
 have r1 := fun k : After W2.heap.size W2 => k.cell ha2 q1'
 have r2 := fun k : After W2.heap.size W2 => k.cell hx2 y0'
 have r3 := fun k : After W2.heap.size W2 => k.cell hx2 y1'
 repeat (go_big_quiet_step (fail))
 refine wpQuiet_nil ?_
 intro kk
 unfold calmQ
 have kb := kk.h
 clear r0 r1 r2 r3 q0' q1' y0' y1'
 obtain ⟨w3, hw3⟩ : ∃ w3, kk.w = w3 := ⟨_, rfl⟩
 rw [hw3] at kb
 rw [hw3]
 clear hw3
 obtain ⟨a2, M2, hz2, U2⟩ := HH.out
 have M3 := M2.same (kb.block _ M2.lt)
 have a3 := (kb.block _ ha2).trans a2
 have U3 := U2.trans (Upd.of_below kb)
 obtain ⟨D, hD, hh⟩ := M3.ex
 have HF := Lib.hid (And.intro M3 (And.intro a3 (And.intro U3 hh)))
 clear M3 a3 U3 a2 M2 hz2 U2 HH hh
 obtain ⟨w4, hrun, hO4, hT4⟩ := hD.store keyed3 Tryz.underlying215 (by unfold maxLen; omega) (Maps.keyOf_int_mk Tryz.underlying3 (wf_small (h := n1) hn2)) (thingR_of p)
 simp only [thing] at hrun
 obtain ⟨M3, a3, U3, hh⟩ := HF.out
 have a4 := (hT4.grown.block _ (lt_of_block a3) (by intro e; exact hne (Option.some.inj e))).trans a3
 have M4 : MapOk w4 mb n1 (fun h => if h = n1 then p else sd h) := by
  have hx := HN.out
  subst hx
  exact M3.put p hD hh hO4
 have U4 := U3.trans (Upd.of_grown hT4.grown (.inr rfl))
 have q1 : w4.cell? ⟨ag, 1, none⟩ = some (.int .i64 (n1 : Int)) := cell_of_heap a4 1 _ rfl
 have HZ : Hid (AggSt w4 ag mb n1 (fun h => if h = n1 then p else sd h) ∧ Upd (fun k => k = ag ∨ k = mb) w w4) := Lib.hid ⟨⟨a4, M4⟩, U4⟩
 clear hD hO4 hT4 HF M3 a3 U3 hh a4 M4 U4 kb
 go_wp2_with fail
 go_ret2
 exact ⟨rfl, HZ.out⟩
end Go.Proofs.YtbhppbeepmllaaaGreatDoor

namespace Go.Proofs.YtbhppbeepmllaaaGreatDoor
open Go.RowKit

theorem AggSt.same {w w' : World} {ag mb n : Nat} {sd : Nat → Nat} (A : AggSt w ag mb n sd) (h1 : w'.heap[ag]? = w.heap[ag]?) (h2 : w'.heap[mb]? = w.heap[mb]?) : AggSt w' ag mb n sd := ⟨h1.trans A.hd, A.map.same h2⟩
theorem AggSt.below {w w' : World} {ag mb n : Nat} {sd : Nat → Nat} (A : AggSt w ag mb n sd) (h : Below w.heap.size w w') : AggSt w' ag mb n sd := A.same (h.block _ (lt_of_block A.hd)) (h.block _ A.map.lt)
theorem thing_stack (p : Nat) (w : World) : Calls Tryz.prog 116 #[.agg #[.pointer (some ⟨p, 0, none⟩), .pointer none]] w fun e w' => e = .returned (.pointer (some ⟨p, 0, none⟩)) ∧ Below w.heap.size w w' := by
 have hb : Below w.heap.size w (w.alloc (.cells #[.pointer (some ⟨p, 0, none⟩), .pointer none] 156)) := (Below.refl _ _).alloc (Nat.le_refl _) _
 go_enter Tryz.func116, Tryz.ntmps116
 go_wp2
 go_ret
 exact ⟨rfl, hb⟩
theorem aggAdd_any (ag mb n : Nat) (sd : Nat → Nat) (h : Nat) (key d : Int) (P : World → Prop) (w : World) (A : AggSt w ag mb n sd) (hn : n ≤ 32) (h1 : 1 ≤ h) (h2 : h ≤ n)
  (HU : ∀ w1, Below w.heap.size w w1 → Calls Tryz.prog 112 #[.pointer (some ⟨sd h, 0, none⟩), .int .u64 key, .int .i64 d] w1 fun e w' => e = .returned (.int .i64 0) ∧ P w') :
  Calls Tryz.prog 80 #[.pointer (some ⟨ag, 0, none⟩), .agg #[.int .i64 h, .bool false, .string ⟨#[]⟩, .int .u64 key, .int .i64 d]] w fun e w' => e = .returned (.tuple #[.iface 178 (.agg #[]), .int .i64 0]) ∧ P w' := by
 obtain ⟨W1, hW1⟩ : ∃ W1, w.alloc (.cells #[.int .i64 h, .bool false, .string ⟨#[]⟩, .int .u64 key, .int .i64 d] 162) = W1 := ⟨_, rfl⟩
 have b1 : Below w.heap.size w W1 := by rw [← hW1]; exact (Below.refl _ _).alloc (Nat.le_refl _) _
 have x1 : W1.heap[w.heap.size]? = some (.cells #[.int .i64 h, .bool false, .string ⟨#[]⟩, .int .u64 key, .int .i64 d] 162 (0, 0)) := by rw [← hW1]; exact heap_alloc_at _ rfl
 have A1 := A.below b1
 have q0 : W1.cell? ⟨ag, 0, none⟩ = some (.map (some mb)) := cell_of_heap A1.hd 0 _ rfl
 have y0 : W1.cell? ⟨w.heap.size, 0, none⟩ = some (.int .i64 h) := cell_of_heap x1 0 _ rfl
 have hla := lt_of_block A1.hd
 have hlx := lt_of_block x1
 have HX := Lib.hid (And.intro x1 b1)
 have HU' := Lib.hid HU
 have hsz : W1.heap.size = w.heap.size + 1 := by rw [← hW1]; simp
 have HS := Lib.hid hsz
 clear hsz
 clear b1 x1 HU A
 go_enter Tryz.func80, Tryz.ntmps80
 go_wp2_with fail
 have KA : ∀ w', Below W1.heap.size W1 w' → (Below W1.heap.size W1 w' ∧ w'.cell? ⟨ag, 0, none⟩ = some (.map (some mb)) ∧ w'.cell? ⟨w.heap.size, 0, none⟩ = some (.int .i64 h) ∧ (Instr.lookup 215 (.map (some mb)) (.int .i64 (h : Int)) true).run Tryz.prog w' = .ok (.tuple #[.agg #[.pointer (some ⟨sd h, 0, none⟩), .pointer none], .bool true]) w') :=
  fun w' hb => ⟨hb, (hb.cell (p := ⟨ag, 0, none⟩) hla).trans q0, (hb.cell (p := ⟨w.heap.size, 0, none⟩) hlx).trans y0, (A1.below hb).map.look hn h h1 h2⟩
 go_region_held3 (fun w' => Below W1.heap.size W1 w' ∧ w'.cell? ⟨ag, 0, none⟩ = some (.map (some mb)) ∧ w'.cell? ⟨w.heap.size, 0, none⟩ = some (.int .i64 h) ∧ (Instr.lookup 215 (.map (some mb)) (.int .i64 (h : Int)) true).run Tryz.prog w' = .ok (.tuple #[.agg #[.pointer (some ⟨sd h, 0, none⟩), .pointer none], .bool true]) w')
  (first | (refine KA _ ?_; repeat' (first | exact Below.refl _ _ | refine Below.drew ?_ | refine Below.alloc ?_ (by simp) _ | refine Below.setCell ?_ (by simp) _)))
  (fail)
 all_goals (
  obtain ⟨W2, hW2⟩ : ∃ W2, (W1.alloc (.cells #[.pointer (some ⟨sd h, 0, none⟩), .pointer none] 156)).drew = W2 := ⟨_, rfl⟩
  rw [hW2]
  obtain ⟨x1, b1⟩ := HX.out
  have k2 : Below W1.heap.size W1 W2 := by rw [← hW2]; exact ((Below.refl _ _).alloc (Nat.le_refl _) _).drew
  have z2 : W2.heap[W1.heap.size]? = some (.cells #[.pointer (some ⟨sd h, 0, none⟩), .pointer none] 156 (0, 0)) := by rw [← hW2]; exact heap_alloc_at _ rfl
  have x2 := (k2.block _ hlx).trans x1
  have p0 : W2.cell? ⟨W1.heap.size, 0, none⟩ = some (.pointer (some ⟨sd h, 0, none⟩)) := cell_of_heap z2 0 _ rfl
  have p1 : W2.cell? ⟨W1.heap.size, 1, none⟩ = some (.pointer none) := cell_of_heap z2 1 _ rfl
  have y1 : W2.cell? ⟨w.heap.size, 1, none⟩ = some (.bool false) := cell_of_heap x2 1 _ rfl
  have y3 : W2.cell? ⟨w.heap.size, 3, none⟩ = some (.int .u64 key) := cell_of_heap x2 3 _ rfl
  have y4 : W2.cell? ⟨w.heap.size, 4, none⟩ = some (.int .i64 d) := cell_of_heap x2 4 _ rfl
  have b2 : Below w.heap.size w W2 := b1.trans (k2.mono b1.size)
  have HC := Lib.hid (HU'.out W2 b2)
  clear hW2 x1 b1 k2 z2 x2 b2 HX HU' A1 q0 y0 hW1
  go_wp2_with fail
  refine HC.out.mono ?_
  rintro e w3 ⟨rfl, hP⟩
  have HP := Lib.hid hP
  have HD := Lib.hid (done_any w3)
  clear HC hP
  go_wp2_with fail
  refine HD.out.mono ?_
  rintro e w4 ⟨rfl, rfl⟩
  go_wp2_with fail
  go_ret2
  exact ⟨rfl, HP.out⟩)
end Go.Proofs.YtbhppbeepmllaaaGreatDoor

namespace Go.Proofs.YtbhppbeepmllaaaGreatDoor
open Go.RowKit

theorem query_quantile (ag mb n : Nat) (sd : Nat → Nat) (h g cc : Nat) (key p : Int) (P : World → Prop) (w : World) (A : AggSt w ag mb n sd) (hn : n ≤ 32) (h1 : 1 ≤ h) (h2 : h ≤ n) (hg : g < w.heap.size) (hp : w.cell? ⟨g, 1, none⟩ = some (.int .i64 p))
  (HU : ∀ w1, Below w.heap.size w w1 → Calls Tryz.prog 122 #[.pointer (some ⟨sd h, 0, none⟩), .int .i64 p] w1 fun e w' => e = .returned (.tuple #[.int .u64 key, .int .i64 0]) ∧ P w') :
  Calls Tryz.prog 82 #[.pointer (some ⟨ag, 0, none⟩), .agg #[.string ⟨#[113, 117, 97, 110, 116, 105, 108, 101]⟩, .int .i64 h, .slice (some ⟨g, 1, none⟩) 1 cc]] w fun e w' => e = .returned (.tuple #[.iface 185 (.agg #[.int .u64 key]), .int .i64 0]) ∧ P w' := by
 obtain ⟨W1, hW1⟩ : ∃ W1, w.alloc (.cells #[.string ⟨#[113, 117, 97, 110, 116, 105, 108, 101]⟩, .int .i64 h, .slice (some ⟨g, 1, none⟩) 1 cc] 168) = W1 := ⟨_, rfl⟩
 have b1 : Below w.heap.size w W1 := by rw [← hW1]; exact (Below.refl _ _).alloc (Nat.le_refl _) _
 have x1 : W1.heap[w.heap.size]? = some (.cells #[.string ⟨#[113, 117, 97, 110, 116, 105, 108, 101]⟩, .int .i64 h, .slice (some ⟨g, 1, none⟩) 1 cc] 168 (0, 0)) := by rw [← hW1]; exact heap_alloc_at _ rfl
 have A1 := A.below b1
 have q0 : W1.cell? ⟨ag, 0, none⟩ = some (.map (some mb)) := cell_of_heap A1.hd 0 _ rfl
 have y0 : W1.cell? ⟨w.heap.size, 1, none⟩ = some (.int .i64 h) := cell_of_heap x1 1 _ rfl
 have hla := lt_of_block A1.hd
 have hlx := lt_of_block x1
 have HX := Lib.hid (And.intro x1 b1)
 have HU' := Lib.hid HU
 have hsz : W1.heap.size = w.heap.size + 1 := by rw [← hW1]; simp
 have HS := Lib.hid hsz
 clear hsz
 clear b1 x1 HU A
 go_enter Tryz.func82, Tryz.ntmps82
 go_wp2_with fail
 have KA : ∀ w', Below W1.heap.size W1 w' → (Below W1.heap.size W1 w' ∧ w'.cell? ⟨ag, 0, none⟩ = some (.map (some mb)) ∧ w'.cell? ⟨w.heap.size, 1, none⟩ = some (.int .i64 h) ∧ (Instr.lookup 215 (.map (some mb)) (.int .i64 (h : Int)) true).run Tryz.prog w' = .ok (.tuple #[.agg #[.pointer (some ⟨sd h, 0, none⟩), .pointer none], .bool true]) w') :=
  fun w' hb => ⟨hb, (hb.cell (p := ⟨ag, 0, none⟩) hla).trans q0, (hb.cell (p := ⟨w.heap.size, 1, none⟩) hlx).trans y0, (A1.below hb).map.look hn h h1 h2⟩
 go_region_held3 (fun w' => Below W1.heap.size W1 w' ∧ w'.cell? ⟨ag, 0, none⟩ = some (.map (some mb)) ∧ w'.cell? ⟨w.heap.size, 1, none⟩ = some (.int .i64 h) ∧ (Instr.lookup 215 (.map (some mb)) (.int .i64 (h : Int)) true).run Tryz.prog w' = .ok (.tuple #[.agg #[.pointer (some ⟨sd h, 0, none⟩), .pointer none], .bool true]) w')
  (first | (refine KA _ ?_; repeat' (first | exact Below.refl _ _ | refine Below.drew ?_ | refine Below.alloc ?_ (by simp) _ | refine Below.setCell ?_ (by simp) _)))
  (fail)
 all_goals (
  obtain ⟨W2, hW2⟩ : ∃ W2, (W1.alloc (.cells #[.pointer (some ⟨sd h, 0, none⟩), .pointer none] 156)).drew = W2 := ⟨_, rfl⟩
  rw [hW2]
  obtain ⟨x1, b1⟩ := HX.out
  have k2 : Below W1.heap.size W1 W2 := by rw [← hW2]; exact ((Below.refl _ _).alloc (Nat.le_refl _) _).drew
  have z2 : W2.heap[W1.heap.size]? = some (.cells #[.pointer (some ⟨sd h, 0, none⟩), .pointer none] 156 (0, 0)) := by rw [← hW2]; exact heap_alloc_at _ rfl
  have x2 := (k2.block _ hlx).trans x1
  have p0 : W2.cell? ⟨W1.heap.size, 0, none⟩ = some (.pointer (some ⟨sd h, 0, none⟩)) := cell_of_heap z2 0 _ rfl
  have p1 : W2.cell? ⟨W1.heap.size, 1, none⟩ = some (.pointer none) := cell_of_heap z2 1 _ rfl
  have b2 : Below w.heap.size w W2 := b1.trans (k2.mono b1.size)
  have y1 : W2.cell? ⟨w.heap.size, 0, none⟩ = some (.string ⟨#[113, 117, 97, 110, 116, 105, 108, 101]⟩) := cell_of_heap x2 0 _ rfl
  have y2 : W2.cell? ⟨w.heap.size, 2, none⟩ = some (.slice (some ⟨g, 1, none⟩) 1 cc) := cell_of_heap x2 2 _ rfl
  have hx2 := lt_of_block x2
  have hT := Lib.hid fun (w3 : World) => thing_stack (sd h) w3
  have Hb := Lib.hid b2
  clear hW2 x1 b1 k2 z2 x2 b2 A1 q0 y0 hW1
  go_wp2_with fail
  refine (hT.out _).mono ?_
  rintro e w3 ⟨rfl, hb3⟩
  have b3 := Hb.out.trans (hb3.mono Hb.out.size)
  have y1' := (hb3.cell (p := ⟨w.heap.size, 0, none⟩) hx2).trans y1
  have y2' := (hb3.cell (p := ⟨w.heap.size, 2, none⟩) hx2).trans y2
  have hp' := (b3.cell (p := ⟨g, 1, none⟩) hg).trans hp
  have HC := Lib.hid (HU'.out w3 b3)
  clear hT hb3 b3 Hb y1 y2 p0 p1 hp HU'
  go_wp2_with fail
  refine HC.out.mono ?_
  rintro e w4 ⟨rfl, hP⟩
  have HP := Lib.hid hP
  clear HC hP
  go_wp2_with fail
  go_ret2
  exact ⟨rfl, HP.out⟩)
theorem query_heavy (ag mb n : Nat) (sd : Nat → Nat) (h g cc : Nat) (k0 k1 : Int) (fo : Option Addr) (fm fc : Nat) (P : World → Prop) (w : World) (A : AggSt w ag mb n sd) (hn : n ≤ 32) (h1 : 1 ≤ h) (h2 : h ≤ n) (hg : g < w.heap.size) (hp0 : w.cell? ⟨g, 1, none⟩ = some (.int .i64 k0)) (hp1 : w.cell? ⟨g, 2, none⟩ = some (.int .i64 k1))
  (HU : ∀ w1, Below w.heap.size w w1 → Calls Tryz.prog 123 #[.pointer (some ⟨sd h, 0, none⟩), .int .i64 k0, .int .i64 k1] w1 fun e w' => e = .returned (.tuple #[.slice fo fm fc, .int .i64 0]) ∧ P w') :
  Calls Tryz.prog 82 #[.pointer (some ⟨ag, 0, none⟩), .agg #[.string ⟨#[104, 101, 97, 118, 121]⟩, .int .i64 h, .slice (some ⟨g, 1, none⟩) 2 cc]] w fun e w' => e = .returned (.tuple #[.iface 194 (.agg #[.slice fo fm fc]), .int .i64 0]) ∧ P w' := by
 obtain ⟨W1, hW1⟩ : ∃ W1, w.alloc (.cells #[.string ⟨#[104, 101, 97, 118, 121]⟩, .int .i64 h, .slice (some ⟨g, 1, none⟩) 2 cc] 168) = W1 := ⟨_, rfl⟩
 have b1 : Below w.heap.size w W1 := by rw [← hW1]; exact (Below.refl _ _).alloc (Nat.le_refl _) _
 have x1 : W1.heap[w.heap.size]? = some (.cells #[.string ⟨#[104, 101, 97, 118, 121]⟩, .int .i64 h, .slice (some ⟨g, 1, none⟩) 2 cc] 168 (0, 0)) := by rw [← hW1]; exact heap_alloc_at _ rfl
 have A1 := A.below b1
 have q0 : W1.cell? ⟨ag, 0, none⟩ = some (.map (some mb)) := cell_of_heap A1.hd 0 _ rfl
 have y0 : W1.cell? ⟨w.heap.size, 1, none⟩ = some (.int .i64 h) := cell_of_heap x1 1 _ rfl
 have hla := lt_of_block A1.hd
 have hlx := lt_of_block x1
 have HX := Lib.hid (And.intro x1 b1)
 have HU' := Lib.hid HU
 have hsz : W1.heap.size = w.heap.size + 1 := by rw [← hW1]; simp
 have HS := Lib.hid hsz
 clear hsz
 clear b1 x1 HU A
 go_enter Tryz.func82, Tryz.ntmps82
 go_wp2_with fail
 have KA : ∀ w', Below W1.heap.size W1 w' → (Below W1.heap.size W1 w' ∧ w'.cell? ⟨ag, 0, none⟩ = some (.map (some mb)) ∧ w'.cell? ⟨w.heap.size, 1, none⟩ = some (.int .i64 h) ∧ (Instr.lookup 215 (.map (some mb)) (.int .i64 (h : Int)) true).run Tryz.prog w' = .ok (.tuple #[.agg #[.pointer (some ⟨sd h, 0, none⟩), .pointer none], .bool true]) w') :=
  fun w' hb => ⟨hb, (hb.cell (p := ⟨ag, 0, none⟩) hla).trans q0, (hb.cell (p := ⟨w.heap.size, 1, none⟩) hlx).trans y0, (A1.below hb).map.look hn h h1 h2⟩
 go_region_held3 (fun w' => Below W1.heap.size W1 w' ∧ w'.cell? ⟨ag, 0, none⟩ = some (.map (some mb)) ∧ w'.cell? ⟨w.heap.size, 1, none⟩ = some (.int .i64 h) ∧ (Instr.lookup 215 (.map (some mb)) (.int .i64 (h : Int)) true).run Tryz.prog w' = .ok (.tuple #[.agg #[.pointer (some ⟨sd h, 0, none⟩), .pointer none], .bool true]) w')
  (first | (refine KA _ ?_; repeat' (first | exact Below.refl _ _ | refine Below.drew ?_ | refine Below.alloc ?_ (by simp) _ | refine Below.setCell ?_ (by simp) _)))
  (fail)
 all_goals (
  obtain ⟨W2, hW2⟩ : ∃ W2, (W1.alloc (.cells #[.pointer (some ⟨sd h, 0, none⟩), .pointer none] 156)).drew = W2 := ⟨_, rfl⟩
  rw [hW2]
  obtain ⟨x1, b1⟩ := HX.out
  have k2 : Below W1.heap.size W1 W2 := by rw [← hW2]; exact ((Below.refl _ _).alloc (Nat.le_refl _) _).drew
  have z2 : W2.heap[W1.heap.size]? = some (.cells #[.pointer (some ⟨sd h, 0, none⟩), .pointer none] 156 (0, 0)) := by rw [← hW2]; exact heap_alloc_at _ rfl
  have x2 := (k2.block _ hlx).trans x1
  have p0 : W2.cell? ⟨W1.heap.size, 0, none⟩ = some (.pointer (some ⟨sd h, 0, none⟩)) := cell_of_heap z2 0 _ rfl
  have p1 : W2.cell? ⟨W1.heap.size, 1, none⟩ = some (.pointer none) := cell_of_heap z2 1 _ rfl
  have b2 : Below w.heap.size w W2 := b1.trans (k2.mono b1.size)
  have y1 : W2.cell? ⟨w.heap.size, 0, none⟩ = some (.string ⟨#[104, 101, 97, 118, 121]⟩) := cell_of_heap x2 0 _ rfl
  have y2 : W2.cell? ⟨w.heap.size, 2, none⟩ = some (.slice (some ⟨g, 1, none⟩) 2 cc) := cell_of_heap x2 2 _ rfl
  have hx2 := lt_of_block x2
  have hT := Lib.hid fun (w3 : World) => thing_stack (sd h) w3
  have Hb := Lib.hid b2
  clear hW2 x1 b1 k2 z2 x2 b2 A1 q0 y0 hW1
  go_wp2_with fail
  refine (hT.out _).mono ?_
  rintro e w3 ⟨rfl, hb3⟩
  have b3 := Hb.out.trans (hb3.mono Hb.out.size)
  have y1' := (hb3.cell (p := ⟨w.heap.size, 0, none⟩) hx2).trans y1
  have y2' := (hb3.cell (p := ⟨w.heap.size, 2, none⟩) hx2).trans y2
  have hp0' := (b3.cell (p := ⟨g, 1, none⟩) hg).trans hp0
  have hp1' := (b3.cell (p := ⟨g, 2, none⟩) hg).trans hp1
  have hx3 : w.heap.size < w3.heap.size := Nat.lt_of_lt_of_le hx2 hb3.size
  have hg3 : g < w3.heap.size := Nat.lt_of_lt_of_le hg b3.size
  have HB3 := Lib.hid b3
  clear hT hb3 b3 Hb y1 y2 p0 p1 hp0 hp1
  go_wp2_with fail
  refine wp_region_mixA w3.heap.size [0, 1, 2, 3, 4, 5, 6, 7, 8] [9, 10, 11, 12, 13, 14] (by kernel_rfl) (by kernel_rfl) rfl ?_
  simp only [opsAt, List.map_cons, List.map_nil, List.getElem?_toArray, List.getElem?_cons_zero, List.getElem?_cons_succ, Option.getD_some]
  have r0 := fun k : After w3.heap.size w3 => k.cell hx3 y2'
  have r1 := fun k : After w3.heap.size w3 => k.cell hg3 hp0'
  have r2 := fun k : After w3.heap.size w3 => k.cell hg3 hp1'
  repeat (go_big_quiet_step (fail))
  refine wpQuiet_nil ?_
  intro kk
  unfold calmQ
  have kb := kk.h
  clear r0 r1 r2 y1' y2' hp0' hp1'
  obtain ⟨w4, hw4⟩ : ∃ w4, kk.w = w4 := ⟨_, rfl⟩
  rw [hw4] at kb
  rw [hw4]
  clear hw4
  have HC := Lib.hid (HU'.out w4 (HB3.out.trans (kb.mono HB3.out.size)))
  clear HU' kb HB3
  go_wp2_with fail
  refine HC.out.mono ?_
  rintro e w5 ⟨rfl, hP⟩
  have HP := Lib.hid hP
  clear HC hP
  go_wp2_with fail
  go_ret2
  exact ⟨rfl, HP.out⟩)
end Go.Proofs.YtbhppbeepmllaaaGreatDoor

namespace Go.Proofs.YtbhppbeepmllaaaGreatDoor
open Go.RowKit

def doneR (ec : Int) : Value := if ec = 0 then .iface 178 (.agg #[]) else .nilIface
theorem done_all (ec : Int) (w : World) : Calls Tryz.prog 110 #[.int .i64 ec] w fun e w' => e = .returned (.tuple #[doneR ec, .int .i64 ec]) ∧ w = w' := by
 unfold doneR
 by_cases h : ec = 0
 ·subst h
  rw [if_pos rfl]
  exact done_any w
 ·rw [if_neg h]
  have d0 : (ec == 0) = false := by simp; exact h
  go_enter Tryz.func110, Tryz.ntmps110
  go_wp2
  go_ret2
  exact ⟨rfl, rfl⟩
theorem pair_merge (ag mb n : Nat) (sd : Nat → Nat) (h j : Nat) (ec : Int) (P : World → Prop) (w : World) (A : AggSt w ag mb n sd) (hn : n ≤ 32) (h1 : 1 ≤ h) (h2 : h ≤ n) (j1 : 1 ≤ j) (j2 : j ≤ n)
  (HU : ∀ w1, Below w.heap.size w w1 → Calls Tryz.prog 125 #[.pointer (some ⟨sd h, 0, none⟩), .pointer (some ⟨sd j, 0, none⟩)] w1 fun e w' => e = .returned (.int .i64 ec) ∧ P w') :
  Calls Tryz.prog 83 #[.pointer (some ⟨ag, 0, none⟩), .agg #[.string ⟨#[109, 101, 114, 103, 101]⟩, .int .i64 h, .int .i64 j]] w fun e w' => e = .returned (.tuple #[doneR ec, .int .i64 ec]) ∧ P w' := by
 obtain ⟨W1, hW1⟩ : ∃ W1, w.alloc (.cells #[.string ⟨#[109, 101, 114, 103, 101]⟩, .int .i64 h, .int .i64 j] 171) = W1 := ⟨_, rfl⟩
 have b1 : Below w.heap.size w W1 := by rw [← hW1]; exact (Below.refl _ _).alloc (Nat.le_refl _) _
 have x1 : W1.heap[w.heap.size]? = some (.cells #[.string ⟨#[109, 101, 114, 103, 101]⟩, .int .i64 h, .int .i64 j] 171 (0, 0)) := by rw [← hW1]; exact heap_alloc_at _ rfl
 have A1 := A.below b1
 have q0 : W1.cell? ⟨ag, 0, none⟩ = some (.map (some mb)) := cell_of_heap A1.hd 0 _ rfl
 have y0 : W1.cell? ⟨w.heap.size, 1, none⟩ = some (.int .i64 h) := cell_of_heap x1 1 _ rfl
 have hla := lt_of_block A1.hd
 have hlx := lt_of_block x1
 have HX := Lib.hid (And.intro x1 b1)
 have HU' := Lib.hid HU
 clear b1 x1 HU A
 go_enter Tryz.func83, Tryz.ntmps83
 go_wp2_with fail
 have KA : ∀ w', Below W1.heap.size W1 w' → (Below W1.heap.size W1 w' ∧ w'.cell? ⟨ag, 0, none⟩ = some (.map (some mb)) ∧ w'.cell? ⟨w.heap.size, 1, none⟩ = some (.int .i64 h) ∧ (Instr.lookup 215 (.map (some mb)) (.int .i64 (h : Int)) true).run Tryz.prog w' = .ok (.tuple #[.agg #[.pointer (some ⟨sd h, 0, none⟩), .pointer none], .bool true]) w') :=
  fun w' hb => ⟨hb, (hb.cell (p := ⟨ag, 0, none⟩) hla).trans q0, (hb.cell (p := ⟨w.heap.size, 1, none⟩) hlx).trans y0, (A1.below hb).map.look hn h h1 h2⟩
 go_region_held3 (fun w' => (Below W1.heap.size W1 w' ∧ w'.cell? ⟨ag, 0, none⟩ = some (.map (some mb)) ∧ w'.cell? ⟨w.heap.size, 1, none⟩ = some (.int .i64 h) ∧ (Instr.lookup 215 (.map (some mb)) (.int .i64 (h : Int)) true).run Tryz.prog w' = .ok (.tuple #[.agg #[.pointer (some ⟨sd h, 0, none⟩), .pointer none], .bool true]) w'))
  (first | (refine KA _ ?_; repeat' (first | exact Below.refl _ _ | refine Below.drew ?_ | refine Below.alloc ?_ (by simp) _ | refine Below.setCell ?_ (by simp) _)))
  (fail)
 all_goals (
  obtain ⟨W2, hW2⟩ : ∃ W2, (W1.alloc (.cells #[.pointer (some ⟨sd h, 0, none⟩), .pointer none] 156)).drew = W2 := ⟨_, rfl⟩
  rw [hW2]
  obtain ⟨x1, b1⟩ := HX.out
  have k2 : Below W1.heap.size W1 W2 := by rw [← hW2]; exact ((Below.refl _ _).alloc (Nat.le_refl _) _).drew
  have z2 : W2.heap[W1.heap.size]? = some (.cells #[.pointer (some ⟨sd h, 0, none⟩), .pointer none] 156 (0, 0)) := by rw [← hW2]; exact heap_alloc_at _ rfl
  have x2 := (k2.block _ hlx).trans x1
  have A2 := A1.below k2
  have b2 : Below w.heap.size w W2 := b1.trans (k2.mono b1.size)
  have q2 : W2.cell? ⟨ag, 0, none⟩ = some (.map (some mb)) := cell_of_heap A2.hd 0 _ rfl
  have y2 : W2.cell? ⟨w.heap.size, 2, none⟩ = some (.int .i64 j) := cell_of_heap x2 2 _ rfl
  have hla2 := lt_of_block A2.hd
  have hlx2 := lt_of_block x2
  have hlz2 := lt_of_block z2
  have HY := Lib.hid (And.intro x2 (And.intro z2 b2))
  clear KA hW2 x1 b1 k2 z2 x2 b2 A1 q0 y0 hW1 HX hla hlx
  go_wp2_with fail
  have KA : ∀ w', Below W2.heap.size W2 w' → (Below W2.heap.size W2 w' ∧ w'.cell? ⟨ag, 0, none⟩ = some (.map (some mb)) ∧ w'.cell? ⟨w.heap.size, 2, none⟩ = some (.int .i64 j) ∧ (Instr.lookup 215 (.map (some mb)) (.int .i64 (j : Int)) true).run Tryz.prog w' = .ok (.tuple #[.agg #[.pointer (some ⟨sd j, 0, none⟩), .pointer none], .bool true]) w') :=
   fun w' hb => ⟨hb, (hb.cell (p := ⟨ag, 0, none⟩) hla2).trans q2, (hb.cell (p := ⟨w.heap.size, 2, none⟩) hlx2).trans y2, (A2.below hb).map.look hn j j1 j2⟩
  go_region_held3 (fun w' => (Below W2.heap.size W2 w' ∧ w'.cell? ⟨ag, 0, none⟩ = some (.map (some mb)) ∧ w'.cell? ⟨w.heap.size, 2, none⟩ = some (.int .i64 j) ∧ (Instr.lookup 215 (.map (some mb)) (.int .i64 (j : Int)) true).run Tryz.prog w' = .ok (.tuple #[.agg #[.pointer (some ⟨sd j, 0, none⟩), .pointer none], .bool true]) w'))
   (first | (refine KA _ ?_; repeat' (first | exact Below.refl _ _ | refine Below.drew ?_ | refine Below.alloc ?_ (by simp) _ | refine Below.setCell ?_ (by simp) _)))
   (fail)
  all_goals (
   obtain ⟨W3, hW3⟩ : ∃ W3, (W2.alloc (.cells #[.pointer (some ⟨sd j, 0, none⟩), .pointer none] 156)).drew = W3 := ⟨_, rfl⟩
   rw [hW3]
   obtain ⟨x2, z2, b2⟩ := HY.out
   have k3 : Below W2.heap.size W2 W3 := by rw [← hW3]; exact ((Below.refl _ _).alloc (Nat.le_refl _) _).drew
   have z3 : W3.heap[W2.heap.size]? = some (.cells #[.pointer (some ⟨sd j, 0, none⟩), .pointer none] 156 (0, 0)) := by rw [← hW3]; exact heap_alloc_at _ rfl
   have x3 := (k3.block _ hlx2).trans x2
   have u3 := (k3.block _ hlz2).trans z2
   have b3 : Below w.heap.size w W3 := b2.trans (k3.mono b2.size)
   have s0 : W3.cell? ⟨w.heap.size, 0, none⟩ = some (.string ⟨#[109, 101, 114, 103, 101]⟩) := cell_of_heap x3 0 _ rfl
   have p0 : W3.cell? ⟨W1.heap.size, 0, none⟩ = some (.pointer (some ⟨sd h, 0, none⟩)) := cell_of_heap u3 0 _ rfl
   have p1 : W3.cell? ⟨W1.heap.size, 1, none⟩ = some (.pointer none) := cell_of_heap u3 1 _ rfl
   have r0 : W3.cell? ⟨W2.heap.size, 0, none⟩ = some (.pointer (some ⟨sd j, 0, none⟩)) := cell_of_heap z3 0 _ rfl
   have r1 : W3.cell? ⟨W2.heap.size, 1, none⟩ = some (.pointer none) := cell_of_heap z3 1 _ rfl
   have l1 := lt_of_block u3
   have l2 := lt_of_block z3
   have HB := Lib.hid b3
   clear KA hW3 x2 z2 b2 k3 z3 x3 u3 b3 A2 q2 y2 HY hla2 hlx2 hlz2
   go_wp2_with fail
   refine wp_region_mixA W3.heap.size [0, 1, 2, 3] [4, 5, 6, 7, 8, 9] (by kernel_rfl) (by kernel_rfl) rfl ?_
   simp only [opsAt, List.map_cons, List.map_nil, List.getElem?_toArray, List.getElem?_cons_zero, List.getElem?_cons_succ, Option.getD_some]
   have z0 := fun k : After W3.heap.size W3 => k.cell l1 p0
   have z1 := fun k : After W3.heap.size W3 => k.cell l2 r0
   have z2 := fun k : After W3.heap.size W3 => k.cell l2 r1
   repeat (go_big_quiet_step ((go_at_call 116; exact after_of (Nat.le_refl _) _ (thing_stack (sd j) _))))
   refine wpQuiet_nil ?_
   intro kk
   unfold calmQ
   have kb := kk.h
   clear z0 z1 z2
   obtain ⟨W5, hW5⟩ : ∃ W5, kk.w = W5 := ⟨_, rfl⟩
   rw [hW5] at kb
   rw [hW5]
   clear hW5
   have HC := Lib.hid (HU'.out W5 (HB.out.trans (kb.mono HB.out.size)))
   clear kb HU' HB s0 p0 p1 r0 r1
   go_wp2_with fail
   refine HC.out.mono ?_
   rintro e W6 ⟨rfl, hP⟩
   have HP := Lib.hid hP
   have HD := Lib.hid (done_all ec W6)
   clear HC hP
   go_wp2_with fail
   refine HD.out.mono ?_
   rintro e W7 ⟨rfl, rfl⟩
   go_wp2_with fail
   go_ret2
   exact ⟨rfl, HP.out⟩))
theorem pair_sub (ag mb n : Nat) (sd : Nat → Nat) (h j : Nat) (ec : Int) (P : World → Prop) (w : World) (A : AggSt w ag mb n sd) (hn : n ≤ 32) (h1 : 1 ≤ h) (h2 : h ≤ n) (j1 : 1 ≤ j) (j2 : j ≤ n)
  (HU : ∀ w1, Below w.heap.size w w1 → Calls Tryz.prog 126 #[.pointer (some ⟨sd h, 0, none⟩), .pointer (some ⟨sd j, 0, none⟩)] w1 fun e w' => e = .returned (.int .i64 ec) ∧ P w') :
  Calls Tryz.prog 83 #[.pointer (some ⟨ag, 0, none⟩), .agg #[.string ⟨#[115, 117, 98, 116, 114, 97, 99, 116]⟩, .int .i64 h, .int .i64 j]] w fun e w' => e = .returned (.tuple #[doneR ec, .int .i64 ec]) ∧ P w' := by
 obtain ⟨W1, hW1⟩ : ∃ W1, w.alloc (.cells #[.string ⟨#[115, 117, 98, 116, 114, 97, 99, 116]⟩, .int .i64 h, .int .i64 j] 171) = W1 := ⟨_, rfl⟩
 have b1 : Below w.heap.size w W1 := by rw [← hW1]; exact (Below.refl _ _).alloc (Nat.le_refl _) _
 have x1 : W1.heap[w.heap.size]? = some (.cells #[.string ⟨#[115, 117, 98, 116, 114, 97, 99, 116]⟩, .int .i64 h, .int .i64 j] 171 (0, 0)) := by rw [← hW1]; exact heap_alloc_at _ rfl
 have A1 := A.below b1
 have q0 : W1.cell? ⟨ag, 0, none⟩ = some (.map (some mb)) := cell_of_heap A1.hd 0 _ rfl
 have y0 : W1.cell? ⟨w.heap.size, 1, none⟩ = some (.int .i64 h) := cell_of_heap x1 1 _ rfl
 have hla := lt_of_block A1.hd
 have hlx := lt_of_block x1
 have HX := Lib.hid (And.intro x1 b1)
 have HU' := Lib.hid HU
 clear b1 x1 HU A
 go_enter Tryz.func83, Tryz.ntmps83
 go_wp2_with fail
 have KA : ∀ w', Below W1.heap.size W1 w' → (Below W1.heap.size W1 w' ∧ w'.cell? ⟨ag, 0, none⟩ = some (.map (some mb)) ∧ w'.cell? ⟨w.heap.size, 1, none⟩ = some (.int .i64 h) ∧ (Instr.lookup 215 (.map (some mb)) (.int .i64 (h : Int)) true).run Tryz.prog w' = .ok (.tuple #[.agg #[.pointer (some ⟨sd h, 0, none⟩), .pointer none], .bool true]) w') :=
  fun w' hb => ⟨hb, (hb.cell (p := ⟨ag, 0, none⟩) hla).trans q0, (hb.cell (p := ⟨w.heap.size, 1, none⟩) hlx).trans y0, (A1.below hb).map.look hn h h1 h2⟩
 go_region_held3 (fun w' => (Below W1.heap.size W1 w' ∧ w'.cell? ⟨ag, 0, none⟩ = some (.map (some mb)) ∧ w'.cell? ⟨w.heap.size, 1, none⟩ = some (.int .i64 h) ∧ (Instr.lookup 215 (.map (some mb)) (.int .i64 (h : Int)) true).run Tryz.prog w' = .ok (.tuple #[.agg #[.pointer (some ⟨sd h, 0, none⟩), .pointer none], .bool true]) w'))
  (first | (refine KA _ ?_; repeat' (first | exact Below.refl _ _ | refine Below.drew ?_ | refine Below.alloc ?_ (by simp) _ | refine Below.setCell ?_ (by simp) _)))
  (fail)
 all_goals (
  obtain ⟨W2, hW2⟩ : ∃ W2, (W1.alloc (.cells #[.pointer (some ⟨sd h, 0, none⟩), .pointer none] 156)).drew = W2 := ⟨_, rfl⟩
  rw [hW2]
  obtain ⟨x1, b1⟩ := HX.out
  have k2 : Below W1.heap.size W1 W2 := by rw [← hW2]; exact ((Below.refl _ _).alloc (Nat.le_refl _) _).drew
  have z2 : W2.heap[W1.heap.size]? = some (.cells #[.pointer (some ⟨sd h, 0, none⟩), .pointer none] 156 (0, 0)) := by rw [← hW2]; exact heap_alloc_at _ rfl
  have x2 := (k2.block _ hlx).trans x1
  have A2 := A1.below k2
  have b2 : Below w.heap.size w W2 := b1.trans (k2.mono b1.size)
  have q2 : W2.cell? ⟨ag, 0, none⟩ = some (.map (some mb)) := cell_of_heap A2.hd 0 _ rfl
  have y2 : W2.cell? ⟨w.heap.size, 2, none⟩ = some (.int .i64 j) := cell_of_heap x2 2 _ rfl
  have hla2 := lt_of_block A2.hd
  have hlx2 := lt_of_block x2
  have hlz2 := lt_of_block z2
  have HY := Lib.hid (And.intro x2 (And.intro z2 b2))
  clear KA hW2 x1 b1 k2 z2 x2 b2 A1 q0 y0 hW1 HX hla hlx
  go_wp2_with fail
  have KA : ∀ w', Below W2.heap.size W2 w' → (Below W2.heap.size W2 w' ∧ w'.cell? ⟨ag, 0, none⟩ = some (.map (some mb)) ∧ w'.cell? ⟨w.heap.size, 2, none⟩ = some (.int .i64 j) ∧ (Instr.lookup 215 (.map (some mb)) (.int .i64 (j : Int)) true).run Tryz.prog w' = .ok (.tuple #[.agg #[.pointer (some ⟨sd j, 0, none⟩), .pointer none], .bool true]) w') :=
   fun w' hb => ⟨hb, (hb.cell (p := ⟨ag, 0, none⟩) hla2).trans q2, (hb.cell (p := ⟨w.heap.size, 2, none⟩) hlx2).trans y2, (A2.below hb).map.look hn j j1 j2⟩
  go_region_held3 (fun w' => (Below W2.heap.size W2 w' ∧ w'.cell? ⟨ag, 0, none⟩ = some (.map (some mb)) ∧ w'.cell? ⟨w.heap.size, 2, none⟩ = some (.int .i64 j) ∧ (Instr.lookup 215 (.map (some mb)) (.int .i64 (j : Int)) true).run Tryz.prog w' = .ok (.tuple #[.agg #[.pointer (some ⟨sd j, 0, none⟩), .pointer none], .bool true]) w'))
   (first | (refine KA _ ?_; repeat' (first | exact Below.refl _ _ | refine Below.drew ?_ | refine Below.alloc ?_ (by simp) _ | refine Below.setCell ?_ (by simp) _)))
   (fail)
  all_goals (
   obtain ⟨W3, hW3⟩ : ∃ W3, (W2.alloc (.cells #[.pointer (some ⟨sd j, 0, none⟩), .pointer none] 156)).drew = W3 := ⟨_, rfl⟩
   rw [hW3]
   obtain ⟨x2, z2, b2⟩ := HY.out
   have k3 : Below W2.heap.size W2 W3 := by rw [← hW3]; exact ((Below.refl _ _).alloc (Nat.le_refl _) _).drew
   have z3 : W3.heap[W2.heap.size]? = some (.cells #[.pointer (some ⟨sd j, 0, none⟩), .pointer none] 156 (0, 0)) := by rw [← hW3]; exact heap_alloc_at _ rfl
   have x3 := (k3.block _ hlx2).trans x2
   have u3 := (k3.block _ hlz2).trans z2
   have b3 : Below w.heap.size w W3 := b2.trans (k3.mono b2.size)
   have s0 : W3.cell? ⟨w.heap.size, 0, none⟩ = some (.string ⟨#[115, 117, 98, 116, 114, 97, 99, 116]⟩) := cell_of_heap x3 0 _ rfl
   have p0 : W3.cell? ⟨W1.heap.size, 0, none⟩ = some (.pointer (some ⟨sd h, 0, none⟩)) := cell_of_heap u3 0 _ rfl
   have p1 : W3.cell? ⟨W1.heap.size, 1, none⟩ = some (.pointer none) := cell_of_heap u3 1 _ rfl
   have r0 : W3.cell? ⟨W2.heap.size, 0, none⟩ = some (.pointer (some ⟨sd j, 0, none⟩)) := cell_of_heap z3 0 _ rfl
   have r1 : W3.cell? ⟨W2.heap.size, 1, none⟩ = some (.pointer none) := cell_of_heap z3 1 _ rfl
   have l1 := lt_of_block u3
   have l2 := lt_of_block z3
   have HB := Lib.hid b3
   clear KA hW3 x2 z2 b2 k3 z3 x3 u3 b3 A2 q2 y2 HY hla2 hlx2 hlz2
   go_wp2_with fail
   refine wp_region_mixA W3.heap.size [0, 1, 2, 3] [4, 5, 6, 7, 8, 9] (by kernel_rfl) (by kernel_rfl) rfl ?_
   simp only [opsAt, List.map_cons, List.map_nil, List.getElem?_toArray, List.getElem?_cons_zero, List.getElem?_cons_succ, Option.getD_some]
   have z0 := fun k : After W3.heap.size W3 => k.cell l1 p0
   have z1 := fun k : After W3.heap.size W3 => k.cell l2 r0
   have z2 := fun k : After W3.heap.size W3 => k.cell l2 r1
   repeat (go_big_quiet_step ((go_at_call 116; exact after_of (Nat.le_refl _) _ (thing_stack (sd j) _))))
   refine wpQuiet_nil ?_
   intro kk
   unfold calmQ
   have kb := kk.h
   clear z0 z1 z2
   obtain ⟨W5, hW5⟩ : ∃ W5, kk.w = W5 := ⟨_, rfl⟩
   rw [hW5] at kb
   rw [hW5]
   clear hW5
   have HC := Lib.hid (HU'.out W5 (HB.out.trans (kb.mono HB.out.size)))
   clear kb HU' HB s0 p0 p1 r0 r1
   go_wp2_with fail
   refine HC.out.mono ?_
   rintro e W6 ⟨rfl, hP⟩
   have HP := Lib.hid hP
   have HD := Lib.hid (done_all ec W6)
   clear HC hP
   go_wp2_with fail
   refine HD.out.mono ?_
   rintro e W7 ⟨rfl, rfl⟩
   go_wp2_with fail
   go_ret2
   exact ⟨rfl, HP.out⟩))
end Go.Proofs.YtbhppbeepmllaaaGreatDoor

namespace Go.Proofs.YtbhppbeepmllaaaGreatDoor
open Go.RowKit

theorem pair_inner (ag mb n : Nat) (sd : Nat → Nat) (h j : Nat) (hi lo : Int) (w : World) (A : AggSt w ag mb n sd) (hn : n ≤ 32) (h1 : 1 ≤ h) (h2 : h ≤ n) (j1 : 1 ≤ j) (j2 : j ≤ n)
  (HU : ∀ w1, Below w.heap.size w w1 → Calls Tryz.prog 124 #[.pointer (some ⟨sd h, 0, none⟩), .pointer (some ⟨sd j, 0, none⟩)] w1 fun e w' => e = .returned (.tuple #[.agg #[.int .i64 hi, .int .u64 lo], .int .i64 0]) ∧ Below w1.heap.size w1 w') :
  Calls Tryz.prog 83 #[.pointer (some ⟨ag, 0, none⟩), .agg #[.string ⟨#[105, 110, 110, 101, 114]⟩, .int .i64 h, .int .i64 j]] w fun e w' => e = .returned (.tuple #[.iface 190 (.agg #[.int .i64 hi, .int .u64 lo]), .int .i64 0]) ∧ Below w.heap.size w w' := by
 obtain ⟨W1, hW1⟩ : ∃ W1, w.alloc (.cells #[.string ⟨#[105, 110, 110, 101, 114]⟩, .int .i64 h, .int .i64 j] 171) = W1 := ⟨_, rfl⟩
 have b1 : Below w.heap.size w W1 := by rw [← hW1]; exact (Below.refl _ _).alloc (Nat.le_refl _) _
 have x1 : W1.heap[w.heap.size]? = some (.cells #[.string ⟨#[105, 110, 110, 101, 114]⟩, .int .i64 h, .int .i64 j] 171 (0, 0)) := by rw [← hW1]; exact heap_alloc_at _ rfl
 have A1 := A.below b1
 have q0 : W1.cell? ⟨ag, 0, none⟩ = some (.map (some mb)) := cell_of_heap A1.hd 0 _ rfl
 have y0 : W1.cell? ⟨w.heap.size, 1, none⟩ = some (.int .i64 h) := cell_of_heap x1 1 _ rfl
 have hla := lt_of_block A1.hd
 have hlx := lt_of_block x1
 have HX := Lib.hid (And.intro x1 b1)
 have HU' := Lib.hid HU
 clear b1 x1 HU A
 go_enter Tryz.func83, Tryz.ntmps83
 go_wp2_with fail
 have KA : ∀ w', Below W1.heap.size W1 w' → (Below W1.heap.size W1 w' ∧ w'.cell? ⟨ag, 0, none⟩ = some (.map (some mb)) ∧ w'.cell? ⟨w.heap.size, 1, none⟩ = some (.int .i64 h) ∧ (Instr.lookup 215 (.map (some mb)) (.int .i64 (h : Int)) true).run Tryz.prog w' = .ok (.tuple #[.agg #[.pointer (some ⟨sd h, 0, none⟩), .pointer none], .bool true]) w') :=
  fun w' hb => ⟨hb, (hb.cell (p := ⟨ag, 0, none⟩) hla).trans q0, (hb.cell (p := ⟨w.heap.size, 1, none⟩) hlx).trans y0, (A1.below hb).map.look hn h h1 h2⟩
 go_region_held3 (fun w' => (Below W1.heap.size W1 w' ∧ w'.cell? ⟨ag, 0, none⟩ = some (.map (some mb)) ∧ w'.cell? ⟨w.heap.size, 1, none⟩ = some (.int .i64 h) ∧ (Instr.lookup 215 (.map (some mb)) (.int .i64 (h : Int)) true).run Tryz.prog w' = .ok (.tuple #[.agg #[.pointer (some ⟨sd h, 0, none⟩), .pointer none], .bool true]) w'))
  (first | (refine KA _ ?_; repeat' (first | exact Below.refl _ _ | refine Below.drew ?_ | refine Below.alloc ?_ (by simp) _ | refine Below.setCell ?_ (by simp) _)))
  (fail)
 all_goals (
  obtain ⟨W2, hW2⟩ : ∃ W2, (W1.alloc (.cells #[.pointer (some ⟨sd h, 0, none⟩), .pointer none] 156)).drew = W2 := ⟨_, rfl⟩
  rw [hW2]
  obtain ⟨x1, b1⟩ := HX.out
  have k2 : Below W1.heap.size W1 W2 := by rw [← hW2]; exact ((Below.refl _ _).alloc (Nat.le_refl _) _).drew
  have z2 : W2.heap[W1.heap.size]? = some (.cells #[.pointer (some ⟨sd h, 0, none⟩), .pointer none] 156 (0, 0)) := by rw [← hW2]; exact heap_alloc_at _ rfl
  have x2 := (k2.block _ hlx).trans x1
  have A2 := A1.below k2
  have b2 : Below w.heap.size w W2 := b1.trans (k2.mono b1.size)
  have q2 : W2.cell? ⟨ag, 0, none⟩ = some (.map (some mb)) := cell_of_heap A2.hd 0 _ rfl
  have y2 : W2.cell? ⟨w.heap.size, 2, none⟩ = some (.int .i64 j) := cell_of_heap x2 2 _ rfl
  have hla2 := lt_of_block A2.hd
  have hlx2 := lt_of_block x2
  have hlz2 := lt_of_block z2
  have HY := Lib.hid (And.intro x2 (And.intro z2 b2))
  clear KA hW2 x1 b1 k2 z2 x2 b2 A1 q0 y0 hW1 HX hla hlx
  go_wp2_with fail
  have KA : ∀ w', Below W2.heap.size W2 w' → (Below W2.heap.size W2 w' ∧ w'.cell? ⟨ag, 0, none⟩ = some (.map (some mb)) ∧ w'.cell? ⟨w.heap.size, 2, none⟩ = some (.int .i64 j) ∧ (Instr.lookup 215 (.map (some mb)) (.int .i64 (j : Int)) true).run Tryz.prog w' = .ok (.tuple #[.agg #[.pointer (some ⟨sd j, 0, none⟩), .pointer none], .bool true]) w') :=
   fun w' hb => ⟨hb, (hb.cell (p := ⟨ag, 0, none⟩) hla2).trans q2, (hb.cell (p := ⟨w.heap.size, 2, none⟩) hlx2).trans y2, (A2.below hb).map.look hn j j1 j2⟩
  go_region_held3 (fun w' => (Below W2.heap.size W2 w' ∧ w'.cell? ⟨ag, 0, none⟩ = some (.map (some mb)) ∧ w'.cell? ⟨w.heap.size, 2, none⟩ = some (.int .i64 j) ∧ (Instr.lookup 215 (.map (some mb)) (.int .i64 (j : Int)) true).run Tryz.prog w' = .ok (.tuple #[.agg #[.pointer (some ⟨sd j, 0, none⟩), .pointer none], .bool true]) w'))
   (first | (refine KA _ ?_; repeat' (first | exact Below.refl _ _ | refine Below.drew ?_ | refine Below.alloc ?_ (by simp) _ | refine Below.setCell ?_ (by simp) _)))
   (fail)
  all_goals (
   obtain ⟨W3, hW3⟩ : ∃ W3, (W2.alloc (.cells #[.pointer (some ⟨sd j, 0, none⟩), .pointer none] 156)).drew = W3 := ⟨_, rfl⟩
   rw [hW3]
   obtain ⟨x2, z2, b2⟩ := HY.out
   have k3 : Below W2.heap.size W2 W3 := by rw [← hW3]; exact ((Below.refl _ _).alloc (Nat.le_refl _) _).drew
   have z3 : W3.heap[W2.heap.size]? = some (.cells #[.pointer (some ⟨sd j, 0, none⟩), .pointer none] 156 (0, 0)) := by rw [← hW3]; exact heap_alloc_at _ rfl
   have x3 := (k3.block _ hlx2).trans x2
   have u3 := (k3.block _ hlz2).trans z2
   have b3 : Below w.heap.size w W3 := b2.trans (k3.mono b2.size)
   have s0 : W3.cell? ⟨w.heap.size, 0, none⟩ = some (.string ⟨#[105, 110, 110, 101, 114]⟩) := cell_of_heap x3 0 _ rfl
   have p0 : W3.cell? ⟨W1.heap.size, 0, none⟩ = some (.pointer (some ⟨sd h, 0, none⟩)) := cell_of_heap u3 0 _ rfl
   have p1 : W3.cell? ⟨W1.heap.size, 1, none⟩ = some (.pointer none) := cell_of_heap u3 1 _ rfl
   have r0 : W3.cell? ⟨W2.heap.size, 0, none⟩ = some (.pointer (some ⟨sd j, 0, none⟩)) := cell_of_heap z3 0 _ rfl
   have r1 : W3.cell? ⟨W2.heap.size, 1, none⟩ = some (.pointer none) := cell_of_heap z3 1 _ rfl
   have l1 := lt_of_block u3
   have l2 := lt_of_block z3
   have HB := Lib.hid b3
   clear KA hW3 x2 z2 b2 k3 z3 x3 u3 b3 A2 q2 y2 HY hla2 hlx2 hlz2
   go_wp2_with fail
   have KA : ∀ w', Below W3.heap.size W3 w' → (Below W3.heap.size W3 w' ∧ w'.cell? ⟨W1.heap.size, 0, none⟩ = some (.pointer (some ⟨sd h, 0, none⟩)) ∧ w'.cell? ⟨W1.heap.size, 1, none⟩ = some (.pointer none) ∧ w'.cell? ⟨W2.heap.size, 0, none⟩ = some (.pointer (some ⟨sd j, 0, none⟩)) ∧ w'.cell? ⟨W2.heap.size, 1, none⟩ = some (.pointer none)) :=
    fun w' hb => ⟨hb, (hb.cell (p := ⟨W1.heap.size, 0, none⟩) l1).trans p0, (hb.cell (p := ⟨W1.heap.size, 1, none⟩) l1).trans p1, (hb.cell (p := ⟨W2.heap.size, 0, none⟩) l2).trans r0, (hb.cell (p := ⟨W2.heap.size, 1, none⟩) l2).trans r1⟩
   have KB : ∀ X, Below W3.heap.size W3 X → ∀ o, Below W3.heap.size W3 (X.alloc o) := fun X h o => h.alloc h.size o
   have KC : ∀ X Y, Below W3.heap.size W3 X → Below X.heap.size X Y → Below W3.heap.size W3 Y := fun X Y h k => h.trans (k.mono h.size)
   go_region_held3 (fun w' => Below W3.heap.size W3 w' ∧ w'.cell? ⟨W1.heap.size, 0, none⟩ = some (.pointer (some ⟨sd h, 0, none⟩)) ∧ w'.cell? ⟨W1.heap.size, 1, none⟩ = some (.pointer none) ∧ w'.cell? ⟨W2.heap.size, 0, none⟩ = some (.pointer (some ⟨sd j, 0, none⟩)) ∧ w'.cell? ⟨W2.heap.size, 1, none⟩ = some (.pointer none))
    (first | (refine KA _ ?_; repeat' (first | assumption | exact Below.refl _ _ | refine Below.drew ?_ | refine KB _ ?_ _ | refine Below.setCell ?_ (by first | exact Nat.le_refl _ | exact Below.size (by assumption) | (simp; done) | omega) _)))
    (first | (go_at_call 116; refine (thing_stack _ _).mono ?_; rintro e w4 ⟨rfl, hb4⟩; have hB4 : Below W3.heap.size W3 w4 := KC _ _ (by repeat' (first | assumption | exact Below.refl _ _ | refine Below.drew ?_ | refine KB _ ?_ _ | refine Below.setCell ?_ (by first | exact Nat.le_refl _ | exact Below.size (by assumption) | (simp; done) | omega) _)) hb4; try (first | (have hx4 := Box2.newd hb4) | (have hx4 := Box2.new hb4) | (have hx4 := Box2.old (by assumption) hb4))) | (go_at_call 124; refine (HU'.out _ (HB.out.trans (Below.mono (by repeat' (first | assumption | exact Below.refl _ _ | refine Below.drew ?_ | refine KB _ ?_ _ | refine Below.setCell ?_ (by first | exact Nat.le_refl _ | exact Below.size (by assumption) | (simp; done) | omega) _)) HB.out.size))).mono ?_; rintro e w6 ⟨rfl, hb6⟩; have hB6 : Below W3.heap.size W3 w6 := KC _ _ (by repeat' (first | assumption | exact Below.refl _ _ | refine Below.drew ?_ | refine KB _ ?_ _ | refine Below.setCell ?_ (by first | exact Nat.le_refl _ | exact Below.size (by assumption) | (simp; done) | omega) _)) hb6; try (first | (have hx6 := Box2.newd hb6; have hy6 := hx6.facts) | (have hx6 := Box2.new hb6; have hy6 := hx6.facts) | (have hx6 := Box2.old (by assumption) hb6; have hy6 := hx6.facts))))
   all_goals (
    rename_i hh
    have hB := Lib.hid hh.1
    first
     | (have hxV := Box2.facts (⟨two_set hx6.hd (.int .i64 hi) (.int .u64 lo)⟩ : Box2 _ _ (.int .i64 hi) (.int .u64 lo) 188))
     | (have hxV := Box2.facts (⟨heap_alloc_at _ rfl⟩ : Box2 (w6.alloc (.cells #[.int .i64 hi, .int .u64 lo] 188)) w6.heap.size (.int .i64 hi) (.int .u64 lo) 188))
    clear hh KA KB KC p0 p1 r0 r1 s0 HU' hB6
    obtain ⟨v0, v1, _, _, _⟩ := hxV
    go_wp2_with fail
    go_ret2
    exact ⟨rfl, HB.out.trans (hB.out.mono HB.out.size)⟩)))
end Go.Proofs.YtbhppbeepmllaaaGreatDoor
