import Derived.Test.YtbhppbeepmllaaaGreatDoorMf83d1c4f
set_option linter.unusedVariables false
set_option linter.unusedSimpArgs false
set_option maxRecDepth 100000
set_option maxHeartbeats 2000000
namespace Go.Proofs.YtbhppbeepmllaaaGreatDoor
open Go.RowKit

theorem reversed_any (l : List UInt8) (g cap : Nat) (w : World) (hn : 0 < l.length) (hn2 : l.length ≤ 1000000) (hx : w.ownsRow 0 5 1 (.slice (some ⟨g, 0, none⟩) l.length cap) l.length (Lib.byteCells l)) :
  Calls Tryz.prog 130 #[.slice (some ⟨g, 0, none⟩) l.length cap] w fun e w' => e = .returned (.string (sOf l.reverse)) ∧ w.grownBy w' (some g) := by
 have HR := Lib.hid (revB_any l g cap w hn hn2 hx)
 clear hx
 go_enter Tryz.func130, Tryz.ntmps130
 go_wp2_with fail
 refine HR.out.mono ?_
 rintro e w1 ⟨rfl, hO, hG⟩
 have hcv : (convert 45 9 (.slice (some ⟨g, 0, none⟩) l.length cap)).run Tryz.prog w1 = .ok (.string ⟨l.reverse.toArray⟩) w1 := by
  have h := run_convert_bytes_back (P := Tryz.prog) w1 45 9 5 ⟨g, 0, none⟩ cap l.reverse Tryz.underlying45 Tryz.underlying5 Tryz.underlying9 (fun j hj => by
   rw [Lib.add_plain]
   have hj' : j < l.length := by simpa using hj
   have := (hO.cellAt j (by omega)).trans (bc_at _ _ _ (List.getElem?_eq_getElem hj))
   rw [show 0 + j = j by omega]
   exact this)
  rw [List.length_reverse] at h
  exact h
 clear HR hO
 go_wp2_with fail
 go_ret
 exact ⟨rfl, hG⟩
def slLen : Value → Nat
 | .slice _ n _ => n
 | _ => 0
def restD (cur : Nat) (ds : List UInt8) : List UInt8 := if cur = 0 ∧ ds ≠ [] then [] else Lib.decDigits cur
theorem rest_step (cur : Nat) (ds : List UInt8) (h : ¬ (cur = 0 ∧ ds ≠ [])) : restD cur ds = restD (cur / 10) (ds ++ [UInt8.ofNat (48 + cur % 10)]) ++ [UInt8.ofNat (48 + cur % 10)] := by
 unfold restD
 rw [if_neg h, Lib.decDigits]
 by_cases h10 : cur < 10
 ·rw [dif_pos h10, if_pos ⟨by omega, by simp⟩, Nat.mod_eq_of_lt h10]; rfl
 ·rw [dif_neg h10, if_neg (by intro x; omega)]
theorem byte48 (c : Nat) (h : c < 10) : ((UInt8.ofNat (48 + c)).toNat : Int) = 48 + (c : Int) := by
 simp; omega
theorem wtext_pos (n : Nat) (h1 : 1 ≤ n) (hn : n < 9223372036854775808) (w : World) :
  Calls Tryz.prog 86 #[.agg #[.int .i64 0, .int .u64 n]] w fun e w' => e = .returned (.string (sOf (Lib.decDigits n))) ∧ Below w.heap.size w w' := by
 obtain ⟨i0, hi, hz0, hz1, hz2⟩ := info_parts bdByte
 have hb0 : Below w.heap.size w (w.alloc (.cells #[.int .i64 0, .int .u64 n] 188)) := (Below.refl _ _).alloc (Nat.le_refl _) _
 have HS := Lib.hid (wsize_pos n hn (w.alloc (.cells #[.int .i64 0, .int .u64 n] 188)))
 have HB := Lib.hid hb0
 clear hb0
 go_enter Tryz.func86, Tryz.ntmps86
 go_wp2_with fail
 refine HS.out.mono ?_
 rintro e w1 ⟨rfl, hb1⟩
 have x1 : w1.heap[w.heap.size]? = some (.cells #[.int .i64 0, .int .u64 n] 188 (0, 0)) := (hb1.block _ (by simp)).trans (heap_alloc_at _ rfl)
 have b1 := HB.out.trans (hb1.mono HB.out.size)
 have hsz : w.heap.size + 1 ≤ w1.heap.size := by have := hb1.size; simpa using this
 have HX := Lib.hid (And.intro x1 b1)
 have HZ := Lib.hid hsz
 clear HS HB hb1 x1 b1 hsz
 go_wp2_with fail
 go_loopw [3, 4, 5] (fun a l s wr => ∃ (cur : Nat) (ds : List UInt8) (ao : Option Addr) (cap : Nat), a = .int .u64 0 ∧ l = .int .u64 cur ∧ cur ≤ n ∧ s = .slice ao ds.length cap ∧ (ds = [] → cur = n) ∧ Lib.decDigits n = restD cur ds ++ ds.reverse ∧ wr.ownsRow (w.heap.size + 1) 5 1 s ds.length (Lib.byteCells ds) ∧ wr.heap[w.heap.size]? = some (.cells #[.int .i64 0, .int .u64 n] 188 (0, 0)) ∧ Below w.heap.size w wr ∧ w.heap.size + 1 ≤ wr.heap.size) (fun _ l s _ => 2 * (intOf l).toNat + if slLen s = 0 then 1 else 0)
 case atStart => exact ⟨n, [], none, 0, rfl, rfl, Nat.le_refl _, rfl, fun _ => rfl, by simp [restD], World.ownsRow_nil _ _ _ _, HX.out.1, HX.out.2, HZ.out⟩
 case round =>
  obtain ⟨cur, ds, ao, cap, rfl, rfl, hcn, rfl, hnil, hdec, hO, hx, hB, hsz⟩ := hrel
  have hl20 : ds.length ≤ 20 := by
   have h2 := itoa_len (n : Int) (by omega) (by omega)
   rw [Lib.itoa_nonneg] at h2
   have h3 := congrArg List.length hdec
   rw [List.length_append, List.length_reverse] at h3
   have : (n : Int).toNat = n := by omega
   first | omega | (rw [this] at h2; omega)
  have hlx := lt_of_block hx
  by_cases hgo : cur = 0 ∧ ds ≠ []
  ·obtain ⟨rfl, hne⟩ := hgo
   have hpos : 0 < ds.length := List.length_pos_iff.2 hne
   obtain ⟨g, rfl⟩ := own_some hO hpos
   have d1 : ((ds.length : Int) == 0) = false := by simp; exact hne
   have q0 := cell_of_heap hx 0 _ rfl
   have hfin : Lib.decDigits n = ds.reverse := by rw [hdec]; unfold restD; rw [if_pos ⟨rfl, hne⟩]; rfl
   have hlg := (hO.lt g rfl).1
   have HF := Lib.hid (And.intro hfin hB)
   have HR := Lib.hid (reversed_any ds g cap wr hpos (by omega) (hO.mono (Nat.zero_le _)))
   clear hO hx hdec hB hfin
   go_wp2_with fail
   refine HR.out.mono ?_
   rintro e w5 ⟨rfl, hG⟩
   clear HR
   go_wp2_with fail
   go_ret
   rw [HF.out.1]
   exact ⟨rfl, HF.out.2.grown hG HF.out.2.size (fun b e => by cases e; omega)⟩
  ·have hstep := rest_step cur ds hgo
   have hmeas : ∀ u : Nat, 2 * (cur / 10) + (if ds.length + 1 = 0 then 1 else 0) < 2 * cur + (if ds.length = 0 then 1 else 0) := fun _ => by
    rw [if_neg (by omega)]
    by_cases h0 : cur = 0
    ·have : ds = [] := Classical.not_not.1 (fun h => hgo ⟨h0, h⟩)
     subst this; simp; omega
    ·split <;> omega
   obtain ⟨c, hc⟩ : ∃ c : UInt8, UInt8.ofNat (48 + cur % 10) = c := ⟨_, rfl⟩
   have hcv := byte48 (cur % 10) (Nat.mod_lt _ (by decide))
   rw [hc] at hcv hstep
   have hcx : (48 + (cur : Int) % 10) = ((c.toNat : Nat) : Int) := by rw [hcv]; omega
   have HCX := Lib.hid hcx
   clear hcx
   have hrel2 : Lib.decDigits n = restD (cur / 10) (ds ++ [c]) ++ (ds ++ [c]).reverse := by
    rw [hdec, hstep]; simp
   have HD := Lib.hid (div64_ten cur (by omega) wr)
   have HH := Lib.hid (And.intro hrel2 (And.intro hmeas (And.intro hO (And.intro hx (And.intro hB hsz)))))
   have hc0 : ¬ cur = 0 := fun h0 => by
    have hds : ds = [] := Classical.not_not.1 (fun h => hgo ⟨h0, h⟩)
    have := hnil hds
    omega
   have hsz2 := hsz
   clear hgo hstep hmeas hc hcv hrel2 hO hx hB hsz hdec hnil
   go_wp2_with fail
   refine HD.out.mono ?_
   rintro e w2 ⟨rfl, hb2⟩
   have hO2 := (own_below HH.out.2.2.1 hb2).alloc (.cells #[.int .u8 (48 + (cur : Int) % 10)] 5)
   have hx2 := (hb2.block _ hlx).trans HH.out.2.2.2.1
   have hB2 := HH.out.2.2.2.2.1.trans (hb2.mono HH.out.2.2.2.2.1.size)
   have hsz3 := hb2.size
   have hB2a := hB2.alloc hB2.size (.cells #[.int .u8 (48 + (cur : Int) % 10)] 5)
   have HB2 := Lib.hid (And.intro hB2a hx2)
   clear hB2 hb2 hB2a hx2
   go_wp2_with (at_builtin; refine wpList_append_own _ rfl _ _ 45 rfl (w.heap.size + 1) 5 i0 (.int .u8 0) 1 1 Tryz.underlying45 hi hz0 hz1 hz2 rfl (by decide) _ _ _ rfl hO2 ⟨w2.heap.size, 0, none⟩ 1 1 [.int .u8 (48 + (cur : Int) % 10)] rfl rfl ?c1 ?c2 ?c3 ?c4 ?c5 ?_)
   case c1 =>
    intro j u hj
    match j, hj with
    | 0, hj => simp at hj; subst hj; simp [Addr.add]
   case c2 => intro u hu; simp at hu; subst hu; rfl
   case c3 => unfold maxLen; omega
   case c4 => omega
   case c5 => simp; omega
   intro v' w3 hO3 hg3 _
   obtain ⟨g', cap', hv⟩ := own_succ' hO3
   subst hv
   have hO4 : w3.ownsRow (w.heap.size + 1) 5 1 (.slice (some ⟨g', 0, none⟩) (ds.length + 1) cap') (ds.length + 1) (Lib.byteCells (ds ++ [c])) := by
    have e : Lib.byteCells (ds ++ [c]) = Lib.byteCells ds ++ [.int .u8 (48 + (cur : Int) % 10)] := by rw [HCX.out]; simp [Lib.byteCells]
    rw [e]; exact hO3
   have hx3 := (hg3.block w.heap.size (by simp; omega) (by intro e; have := (hO2.lt _ e.symm).1; omega)).trans ((Lib.alloc_old _ _ _ (by omega)).trans HB2.out.2)
   have hB3 : Below w.heap.size w w3 := HB2.out.1.grown hg3 (by simp; omega) (fun b e => by have := (hO2.lt b e).1; omega)
   have hs3 : w.heap.size + 1 ≤ w3.heap.size := by have := hg3.size; simp at this; omega
   have HI := Lib.hid (And.intro hO4 (And.intro hx3 (And.intro hB3 hs3)))
   clear hO2 hO3 hg3 hO4 hx3 hB3 HB2
   go_wp2_with fail
   go_roundw
   case rel => exact ⟨cur / 10, ds ++ [c], some ⟨g', 0, none⟩, cap', rfl, by simp, by omega, by simp, by simp, HH.out.1, by simpa using HI.out.1, HI.out.2.1, HI.out.2.2.1, HI.out.2.2.2⟩
   case measure =>
    have h := HH.out.2.1 0
    have e : ((cur : Int) / 10).toNat = cur / 10 := by omega
    simpa [intOf, slLen, e] using h
theorem wtext_neg (n : Nat) (h1 : 1 ≤ n) (hn : n < 9223372036854775808) (w : World) :
  Calls Tryz.prog 86 #[.agg #[.int .i64 (-1), .int .u64 (-(n : Int) + 18446744073709551616)]] w fun e w' => e = .returned (.string (sOf ((45 : UInt8) :: Lib.decDigits n))) ∧ Below w.heap.size w w' := by
 obtain ⟨i0, hi, hz0, hz1, hz2⟩ := info_parts bdByte
 have hb0 : Below w.heap.size w (w.alloc (.cells #[.int .i64 (-1), .int .u64 (-(n : Int) + 18446744073709551616)] 188)) := (Below.refl _ _).alloc (Nat.le_refl _) _
 have HS := Lib.hid (wsize_neg n h1 hn (w.alloc (.cells #[.int .i64 (-1), .int .u64 (-(n : Int) + 18446744073709551616)] 188)))
 have HB := Lib.hid hb0
 clear hb0
 go_enter Tryz.func86, Tryz.ntmps86
 go_wp2_with fail
 refine HS.out.mono ?_
 rintro e w1 ⟨rfl, hb1⟩
 have x1 : w1.heap[w.heap.size]? = some (.cells #[.int .i64 (-1), .int .u64 (-(n : Int) + 18446744073709551616)] 188 (0, 0)) := (hb1.block _ (by simp)).trans (heap_alloc_at _ rfl)
 have b1 := HB.out.trans (hb1.mono HB.out.size)
 have hsz : w.heap.size + 1 ≤ w1.heap.size := by have := hb1.size; simpa using this
 have HX := Lib.hid (And.intro x1 b1)
 have HZ := Lib.hid hsz
 clear HS HB hb1 x1 b1 hsz
 go_wp2_with fail
 go_loopw [3, 4, 5] (fun a l s wr => ∃ (cur : Nat) (ds : List UInt8) (ao : Option Addr) (cap : Nat), a = .int .u64 0 ∧ l = .int .u64 cur ∧ cur ≤ n ∧ s = .slice ao ds.length cap ∧ (ds = [] → cur = n) ∧ Lib.decDigits n = restD cur ds ++ ds.reverse ∧ wr.ownsRow (w.heap.size + 1) 5 1 s ds.length (Lib.byteCells ds) ∧ wr.heap[w.heap.size]? = some (.cells #[.int .i64 (-1), .int .u64 (-(n : Int) + 18446744073709551616)] 188 (0, 0)) ∧ Below w.heap.size w wr ∧ w.heap.size + 1 ≤ wr.heap.size) (fun _ l s _ => 2 * (intOf l).toNat + if slLen s = 0 then 1 else 0)
 case atStart => exact ⟨n, [], none, 0, rfl, rfl, Nat.le_refl _, rfl, fun _ => rfl, by simp [restD], World.ownsRow_nil _ _ _ _, HX.out.1, HX.out.2, HZ.out⟩
 case round =>
  obtain ⟨cur, ds, ao, cap, rfl, rfl, hcn, rfl, hnil, hdec, hO, hx, hB, hsz⟩ := hrel
  have hl20 : ds.length ≤ 20 := by
   have h2 := itoa_len (n : Int) (by omega) (by omega)
   rw [Lib.itoa_nonneg] at h2
   have h3 := congrArg List.length hdec
   rw [List.length_append, List.length_reverse] at h3
   have : (n : Int).toNat = n := by omega
   first | omega | (rw [this] at h2; omega)
  have hlx := lt_of_block hx
  by_cases hgo : cur = 0 ∧ ds ≠ []
  ·obtain ⟨rfl, hne⟩ := hgo
   have hpos : 0 < ds.length := List.length_pos_iff.2 hne
   obtain ⟨g, rfl⟩ := own_some hO hpos
   have d1 : ((ds.length : Int) == 0) = false := by simp; exact hne
   have q0 := cell_of_heap hx 0 _ rfl
   have hfin : Lib.decDigits n = ds.reverse := by rw [hdec]; unfold restD; rw [if_pos ⟨rfl, hne⟩]; rfl
   have hlg := (hO.lt g rfl).1
   have HF := Lib.hid (And.intro hfin hB)
   have hO2 := hO.alloc (.cells #[.int .u8 45] 5)
   have hB2 := hB.alloc hB.size (.cells #[.int .u8 45] 5)
   have HB2 := Lib.hid hB2
   clear hO hx hdec hB hfin hB2
   go_wp2_with (at_builtin; refine wpList_append_own _ rfl _ _ 45 rfl (w.heap.size + 1) 5 i0 (.int .u8 0) 1 1 Tryz.underlying45 hi hz0 hz1 hz2 rfl (by decide) _ _ _ rfl hO2 ⟨wr.heap.size, 0, none⟩ 1 1 [.int .u8 45] rfl rfl ?c1 ?c2 ?c3 ?c4 ?c5 ?_)
   case c1 =>
    intro j u hj
    match j, hj with
    | 0, hj => simp at hj; subst hj; simp [Addr.add]
   case c2 => intro u hu; simp at hu; subst hu; rfl
   case c3 => unfold maxLen; omega
   case c4 => omega
   case c5 => simp; omega
   intro v' w3 hO3 hg3 _
   obtain ⟨g', cap', hv⟩ := own_succ' hO3
   subst hv
   have hO4 : w3.ownsRow (w.heap.size + 1) 5 1 (.slice (some ⟨g', 0, none⟩) ((ds ++ [45]).length) cap') (ds ++ [45]).length (Lib.byteCells (ds ++ [45])) := by
    have e : Lib.byteCells (ds ++ [45]) = Lib.byteCells ds ++ [.int .u8 45] := by simp [Lib.byteCells]
    rw [e, List.length_append]; exact hO3
   have hlg' := (hO4.lt g' rfl).1
   have hB3 : Below w.heap.size w w3 := HB2.out.grown hg3 (by simp; omega) (fun b e => by have := (hO2.lt b e).1; omega)
   have HR := Lib.hid (reversed_any (ds ++ [45]) g' cap' w3 (by simp) (by simp; omega) (hO4.mono (Nat.zero_le _)))
   have HB3 := Lib.hid hB3
   simp only [List.length_append, List.length_cons, List.length_nil] at HR
   clear hO2 hO3 hg3 hO4 hB3
   go_wp2_with fail
   refine HR.out.mono ?_
   rintro e w5 ⟨rfl, hG⟩
   clear HR
   go_wp2_with fail
   go_ret
   rw [HF.out.1]
   refine ⟨?_, HB3.out.grown hG HB3.out.size (fun b e => by cases e; omega)⟩
   simp
  ·have hstep := rest_step cur ds hgo
   have hmeas : ∀ u : Nat, 2 * (cur / 10) + (if ds.length + 1 = 0 then 1 else 0) < 2 * cur + (if ds.length = 0 then 1 else 0) := fun _ => by
    rw [if_neg (by omega)]
    by_cases h0 : cur = 0
    ·have : ds = [] := Classical.not_not.1 (fun h => hgo ⟨h0, h⟩)
     subst this; simp; omega
    ·split <;> omega
   obtain ⟨c, hc⟩ : ∃ c : UInt8, UInt8.ofNat (48 + cur % 10) = c := ⟨_, rfl⟩
   have hcv := byte48 (cur % 10) (Nat.mod_lt _ (by decide))
   rw [hc] at hcv hstep
   have hcx : (48 + (cur : Int) % 10) = ((c.toNat : Nat) : Int) := by rw [hcv]; omega
   have HCX := Lib.hid hcx
   clear hcx
   have hrel2 : Lib.decDigits n = restD (cur / 10) (ds ++ [c]) ++ (ds ++ [c]).reverse := by
    rw [hdec, hstep]; simp
   have HD := Lib.hid (div64_ten cur (by omega) wr)
   have HH := Lib.hid (And.intro hrel2 (And.intro hmeas (And.intro hO (And.intro hx (And.intro hB hsz)))))
   have hc0 : ¬ cur = 0 := fun h0 => by
    have hds : ds = [] := Classical.not_not.1 (fun h => hgo ⟨h0, h⟩)
    have := hnil hds
    omega
   have hsz2 := hsz
   clear hgo hstep hmeas hc hcv hrel2 hO hx hB hsz hdec hnil
   go_wp2_with fail
   refine HD.out.mono ?_
   rintro e w2 ⟨rfl, hb2⟩
   have hO2 := (own_below HH.out.2.2.1 hb2).alloc (.cells #[.int .u8 (48 + (cur : Int) % 10)] 5)
   have hx2 := (hb2.block _ hlx).trans HH.out.2.2.2.1
   have hB2 := HH.out.2.2.2.2.1.trans (hb2.mono HH.out.2.2.2.2.1.size)
   have hsz3 := hb2.size
   have hB2a := hB2.alloc hB2.size (.cells #[.int .u8 (48 + (cur : Int) % 10)] 5)
   have HB2 := Lib.hid (And.intro hB2a hx2)
   clear hB2 hb2 hB2a hx2
   go_wp2_with (at_builtin; refine wpList_append_own _ rfl _ _ 45 rfl (w.heap.size + 1) 5 i0 (.int .u8 0) 1 1 Tryz.underlying45 hi hz0 hz1 hz2 rfl (by decide) _ _ _ rfl hO2 ⟨w2.heap.size, 0, none⟩ 1 1 [.int .u8 (48 + (cur : Int) % 10)] rfl rfl ?c1 ?c2 ?c3 ?c4 ?c5 ?_)
   case c1 =>
    intro j u hj
    match j, hj with
    | 0, hj => simp at hj; subst hj; simp [Addr.add]
   case c2 => intro u hu; simp at hu; subst hu; rfl
   case c3 => unfold maxLen; omega
   case c4 => omega
   case c5 => simp; omega
   intro v' w3 hO3 hg3 _
   obtain ⟨g', cap', hv⟩ := own_succ' hO3
   subst hv
   have hO4 : w3.ownsRow (w.heap.size + 1) 5 1 (.slice (some ⟨g', 0, none⟩) (ds.length + 1) cap') (ds.length + 1) (Lib.byteCells (ds ++ [c])) := by
    have e : Lib.byteCells (ds ++ [c]) = Lib.byteCells ds ++ [.int .u8 (48 + (cur : Int) % 10)] := by rw [HCX.out]; simp [Lib.byteCells]
    rw [e]; exact hO3
   have hx3 := (hg3.block w.heap.size (by simp; omega) (by intro e; have := (hO2.lt _ e.symm).1; omega)).trans ((Lib.alloc_old _ _ _ (by omega)).trans HB2.out.2)
   have hB3 : Below w.heap.size w w3 := HB2.out.1.grown hg3 (by simp; omega) (fun b e => by have := (hO2.lt b e).1; omega)
   have hs3 : w.heap.size + 1 ≤ w3.heap.size := by have := hg3.size; simp at this; omega
   have HI := Lib.hid (And.intro hO4 (And.intro hx3 (And.intro hB3 hs3)))
   clear hO2 hO3 hg3 hO4 hx3 hB3 HB2
   go_wp2_with fail
   go_roundw
   case rel => exact ⟨cur / 10, ds ++ [c], some ⟨g', 0, none⟩, cap', rfl, by simp, by omega, by simp, by simp, HH.out.1, by simpa using HI.out.1, HI.out.2.1, HI.out.2.2.1, HI.out.2.2.2⟩
   case measure =>
    have h := HH.out.2.1 0
    have e : ((cur : Int) / 10).toNat = cur / 10 := by omega
    simpa [intOf, slLen, e] using h
end Go.Proofs.YtbhppbeepmllaaaGreatDoor

namespace Go.Proofs.YtbhppbeepmllaaaGreatDoor
open Go.RowKit

def dv : List Nat → List Nat × Nat
 | [] => ([], 0)
 | d :: r => (((dv r).2 * 65536 + d) / 10 :: (dv r).1, ((dv r).2 * 65536 + d) % 10)
theorem dv_len : ∀ l, (dv l).1.length = l.length
 | [] => rfl
 | d :: r => by simp [dv, dv_len r]
theorem dv_rest : ∀ l, (dv l).2 < 10
 | [] => by decide
 | d :: r => Nat.mod_lt _ (by decide)
theorem dv_lt : ∀ l, (∀ d ∈ l, d < 65536) → ∀ d ∈ (dv l).1, d < 65536
 | [], _, d, h => by simp [dv] at h
 | x :: r, hx, d, h => by
  simp only [dv, List.mem_cons] at h
  rcases h with rfl | h
  ·have := dv_rest r
   have := hx x (by simp)
   omega
  ·exact dv_lt r (fun y hy => hx y (by simp [hy])) d h
theorem dv_num : ∀ l, num l = 10 * num (dv l).1 + (dv l).2
 | [] => by simp [dv, num]
 | d :: r => by
  have := dv_num r
  simp only [dv, num]
  omega
def strLen : Value → Nat
 | .string s => s.size
 | _ => 0
def numV (a : Array Value) : Nat := num (a.toList.map fun v => (intOf v).toNat)
theorem numV_arr (l : List Nat) : numV (arrL l) = num l := by
 unfold numV arrL
 congr 1
 simp [intOf, Function.comp_def]
def blkNum (b : Nat) (w : World) : Nat := match w.heap[b]? with
 | some (.cells a _ _) => numV a
 | _ => 0
theorem blkNum_of {b : Nat} {w : World} {l : List Nat} (h : w.heap[b]? = some (Obj.cells (arrL l) 93 (0, 0))) : blkNum b w = num l := by
 unfold blkNum; rw [h]; exact numV_arr l
def dvK (c : List Nat) (m : Nat) : List Nat := c.take m ++ (dv (c.drop m)).1
theorem dvK_len (c : List Nat) (m : Nat) (h : m ≤ c.length) : (dvK c m).length = c.length := by
 unfold dvK; rw [List.length_append, dv_len, List.length_take, List.length_drop]; omega
theorem dvK_at (c : List Nat) (m : Nat) (h : m < c.length) : (dvK c (m + 1)).getD m 0 = c.getD m 0 := by
 unfold dvK
 simp only [List.getD_eq_getElem?_getD]
 rw [List.getElem?_append_left (by rw [List.length_take]; omega), List.getElem?_take, if_pos (by omega)]
theorem drop_cons (c : List Nat) (m : Nat) (h : m < c.length) : c.drop m = c.getD m 0 :: c.drop (m + 1) := by
 rw [List.drop_eq_getElem_cons h]
 congr 1
 simp [List.getD_eq_getElem?_getD, List.getElem?_eq_getElem h]
theorem dvK_set (c : List Nat) (m : Nat) (h : m < c.length) : (dvK c (m + 1)).set m (((dv (c.drop (m + 1))).2 * 65536 + c.getD m 0) / 10) = dvK c m := by
 have hl : (c.take m).length = m := by rw [List.length_take]; omega
 unfold dvK
 rw [drop_cons c m h, List.take_succ_eq_append_getElem h]
 rw [List.append_assoc, List.set_append_right _ _ (by omega), hl, Nat.sub_self]
 rfl
theorem num_nought {l : List Nat} : num l = 0 ↔ ∀ d ∈ l, d = 0 := by
 induction l with
 | nil => simp [num]
 | cons d r ih =>
  simp only [num, List.mem_cons, forall_eq_or_imp]
  constructor
  ·intro h
   exact ⟨by omega, ih.1 (by omega)⟩
  ·rintro ⟨h1, h2⟩
   have := ih.2 h2
   omega
theorem set10g {W : World} {b : Nat} {u0 u1 u2 u3 u4 u5 u6 u7 u8 u9 : Value} (h : W.heap[b]? = some (Obj.cells #[u0, u1, u2, u3, u4, u5, u6, u7, u8, u9] 93 (0, 0))) (v0 v1 v2 v3 v4 v5 v6 v7 v8 v9 : Value) : ((((((((((W.setCell ⟨b, 0, none⟩ v0).setCell ⟨b, 1, none⟩ v1).setCell ⟨b, 2, none⟩ v2).setCell ⟨b, 3, none⟩ v3).setCell ⟨b, 4, none⟩ v4).setCell ⟨b, 5, none⟩ v5).setCell ⟨b, 6, none⟩ v6).setCell ⟨b, 7, none⟩ v7).setCell ⟨b, 8, none⟩ v8).setCell ⟨b, 9, none⟩ v9).heap[b]? = some (Obj.cells #[v0, v1, v2, v3, v4, v5, v6, v7, v8, v9] 93 (0, 0)) := by
 have h0 := heap_setCell_same _ b 0 _ _ v0 h
 have h1 := heap_setCell_same _ b 1 _ _ v1 h0
 have h2 := heap_setCell_same _ b 2 _ _ v2 h1
 have h3 := heap_setCell_same _ b 3 _ _ v3 h2
 have h4 := heap_setCell_same _ b 4 _ _ v4 h3
 have h5 := heap_setCell_same _ b 5 _ _ v5 h4
 have h6 := heap_setCell_same _ b 6 _ _ v6 h5
 have h7 := heap_setCell_same _ b 7 _ _ v7 h6
 have h8 := heap_setCell_same _ b 8 _ _ v8 h7
 have h9 := heap_setCell_same _ b 9 _ _ v9 h8
 simpa using h9
theorem ltext_pos (c0 : List Nat) (hc0 : c0.length = 10) (hd0 : ∀ d ∈ c0, d < 65536) (htop : c0.getD 9 0 < 32768) (N : Nat) (hN : num c0 = N) (hNb : N ≤ 9223372036854775808) (w : World) :
  Calls Tryz.prog 45 #[.agg (arrL c0)] w fun e w' => e = .returned (.string (sOf (Lib.decDigits N))) ∧ Below w.heap.size w w' := by
 have dtop : decide ((32768 : Int) ≤ ((c0.getD 9 0 : Nat) : Int)) = false := by simp only [decide_eq_false_iff_not]; omega
 have HBw := Lib.hid fun w => lbelow_any c0 hc0 w
 rw [dtop] at HBw
 have x0 : (w.alloc (.cells (arrL c0) 93)).heap[w.heap.size]? = some (Obj.cells (arrL c0) 93 (0, 0)) := heap_alloc_at _ rfl
 have kb0 : Below w.heap.size w (w.alloc (.cells (arrL c0) 93)) := (Below.refl _ _).alloc (Nat.le_refl _) _
 have hl21 : (Lib.decDigits N).length ≤ 20 := by
  by_cases h1 : 1 ≤ N
  ·have h := itoa_len (-(N : Int)) (by omega) (by omega)
   rw [Lib.itoa_neg N h1, List.length_cons] at h
   omega
  ·have h := itoa_len (N : Int) (by omega) (by omega)
   rw [Lib.itoa_nonneg] at h
   exact h
 obtain ⟨a0, a1, a2, a3, a4, a5, a6, a7, a8, a9, hex⟩ := ten c0 hc0
 have hx0 : (w.alloc (.cells (arrL c0) 93)).heap[w.heap.size]? = some (Obj.cells #[.int .i64 (a0 : Int), .int .i64 (a1 : Int), .int .i64 (a2 : Int), .int .i64 (a3 : Int), .int .i64 (a4 : Int), .int .i64 (a5 : Int), .int .i64 (a6 : Int), .int .i64 (a7 : Int), .int .i64 (a8 : Int), .int .i64 (a9 : Int)] 93 (0, 0)) := by rw [x0, hex]; rfl
 have hval : arrL c0 = #[.int .i64 (a0 : Int), .int .i64 (a1 : Int), .int .i64 (a2 : Int), .int .i64 (a3 : Int), .int .i64 (a4 : Int), .int .i64 (a5 : Int), .int .i64 (a6 : Int), .int .i64 (a7 : Int), .int .i64 (a8 : Int), .int .i64 (a9 : Int)] := by rw [hex]; rfl
 have q0 := cell_of_heap hx0 0 _ rfl
 have q1 := cell_of_heap hx0 1 _ rfl
 have q2 := cell_of_heap hx0 2 _ rfl
 have q3 := cell_of_heap hx0 3 _ rfl
 have q4 := cell_of_heap hx0 4 _ rfl
 have q5 := cell_of_heap hx0 5 _ rfl
 have q6 := cell_of_heap hx0 6 _ rfl
 have q7 := cell_of_heap hx0 7 _ rfl
 have q8 := cell_of_heap hx0 8 _ rfl
 have q9 := cell_of_heap hx0 9 _ rfl
 have HV := Lib.hid hval
 rw [hval] at HBw
 clear dtop htop hex
 go_enter Tryz.func45, Tryz.ntmps45
 go_wp2_with fail
 refine (HBw.out _).mono ?_
 rintro e w1 ⟨rfl, hb1⟩
 have x1 : w1.heap[w.heap.size]? = some (Obj.cells (arrL c0) 93 (0, 0)) := by
  rw [HV.out] at hx0 ⊢; exact (hb1.block w.heap.size (by simp)).trans hx0
 have kb1 : Below w.heap.size w w1 := by
  rw [HV.out] at kb0; exact kb0.trans (hb1.mono (by simp))
 clear q0 q1 q2 q3 q4 q5 q6 q7 q8 q9 hx0 x0 kb0 HBw hb1 HV hval
 go_wp2_with fail
 go_loopw [4, 5] (fun s z wr => ∃ (c : List Nat) (S : List UInt8), s = .string (sOf S) ∧ z = .bool (decide (num c = 0 ∧ S ≠ [])) ∧ c.length = 10 ∧ (∀ d ∈ c, d < 65536) ∧ num c ≤ N ∧ (S = [] → num c = N) ∧ Lib.decDigits N = restD (num c) S ++ S ∧ wr.heap[w.heap.size]? = some (Obj.cells (arrL c) 93 (0, 0)) ∧ Below w.heap.size w wr) (fun s _ wr => 2 * blkNum w.heap.size wr + (if strLen s = 0 then 1 else 0))
 case atStart => exact ⟨c0, [], rfl, by simp, hc0, hd0, by omega, fun _ => hN, by simp [restD, hN], x1, kb1⟩
 case round =>
  obtain ⟨c, S, rfl, rfl, hc, hd, hle, hnil, hdec, hx, hB⟩ := hrel
  have hSl : S.length ≤ 20 := by have := congrArg List.length hdec; simp at this; omega
  by_cases hz : num c = 0 ∧ S ≠ []
  ·have dz : decide (num c = 0 ∧ S ≠ []) = true := by simpa using hz
   have hemp : (sOf S).toList.isEmpty = false := by
    rw [ByteArray.toList_eq, sOf_list]
    match S, hz.2 with
    | d :: r, _ => rfl
   rw [dz]
   have hfin : Lib.decDigits N = S := by rw [hdec]; simp [restD, hz.1, hz.2]
   have HF := Lib.hid (And.intro hfin hB)
   have hcat : ¬ 9223372036854775807 < (sOf S).size := by rw [sOf_size]; omega
   have hsap := Lib.hid (sOf_append [] S)
   clear hfin hB hx hdec hz
   go_wp2_with fail
   go_ret
   rw [HF.out.1]
   exact ⟨congrArg (fun z => Ending.returned (Value.string z)) hsap.out, HF.out.2⟩
  ·have dz : decide (num c = 0 ∧ S ≠ []) = false := by simpa using hz
   rw [dz]
   have HH := Lib.hid (And.intro hz (And.intro hle (And.intro hnil hdec)))
   clear hz hle hnil hdec
   go_wp2_with fail
   go_loopw [5, 6, 7] (fun z r m' wr => ∃ m : Nat, m ≤ 10 ∧ m' = .int .i64 ((m : Int) - 1) ∧ r = .int .i64 (((dv (c.drop m)).2 : Nat) : Int) ∧ z = .bool (decide (num (dv (c.drop m)).1 = 0)) ∧ wr.heap[w.heap.size]? = some (Obj.cells (arrL (dvK c m)) 93 (0, 0)) ∧ Below w.heap.size w wr) (fun _ _ m' _ => (intOf m' + 1).toNat)
   case atStart => exact ⟨10, by omega, rfl, by rw [List.drop_of_length_le (by omega)]; rfl, by rw [List.drop_of_length_le (by omega)]; rfl, by rw [dvK, List.drop_of_length_le (by omega), List.take_of_length_le (by omega)]; simpa [dv] using hx, hB⟩
   case round =>
    obtain ⟨m, hm, rfl, rfl, rfl, hx2, hB2⟩ := hrel
    by_cases hm0 : m = 0
    ·subst hm0
     have e0 : ((0 : Nat) : Int) - 1 = -1 := rfl
     rw [e0]
     simp only [List.drop_zero] at hx2 ⊢
     have hv0 := dv_rest c
     have hvn := dv_num c
     have hvl := dv_len c
     have hvd := dv_lt c hd
     have hK0 : dvK c 0 = (dv c).1 := by simp [dvK]
     rw [hK0] at hx2
     have hbn := blkNum_of hx
     obtain ⟨c', hc'⟩ : ∃ c', (dv c).1 = c' := ⟨_, rfl⟩
     obtain ⟨r', hr'⟩ : ∃ r', (dv c).2 = r' := ⟨_, rfl⟩
     rw [hc', hr'] at hvn
     rw [hr'] at hv0
     rw [hc'] at hx2 hvl hvd
     rw [hc', hr']
     have H2 := Lib.hid (And.intro hvn (And.intro hvl (And.intro hvd (And.intro hx2 (And.intro hB2 hbn)))))
     clear hvn hvl hvd hx2 hB2 hx hB hc' hr' hK0 hd e0 dz hbn
     obtain ⟨d, hdd⟩ : ∃ d, UInt8.ofNat (48 + r') = d := ⟨_, rfl⟩
     have hcb := byte48 r' hv0
     rw [hdd] at hcb
     have hcv : (convert 45 9 (.slice (some ⟨wr.heap.size, 0, none⟩) 1 1)).run Tryz.prog (wr.alloc (.cells #[.int .u8 (48 + (r' : Int))] 5)) = .ok (.string ⟨[d].toArray⟩) (wr.alloc (.cells #[.int .u8 (48 + (r' : Int))] 5)) := by
      rw [← hcb]
      refine run_convert_bytes_back (P := Tryz.prog) _ 45 9 5 ⟨wr.heap.size, 0, none⟩ 1 [d] Tryz.underlying45 Tryz.underlying5 Tryz.underlying9 (fun j hj => ?_)
      match j, hj with
      | 0, _ => exact cell_of_heap (heap_alloc_at _ rfl) 0 _ rfl
     obtain ⟨D, hD⟩ : ∃ D : ByteArray, ⟨[d].toArray⟩ = D := ⟨_, rfl⟩
     rw [hD] at hcv
     have hcat : ¬ 9223372036854775807 < D.size + (sOf S).size := by
      rw [← hD, sOf_size]; show ¬ 9223372036854775807 < (sOf [d]).size + _; rw [sOf_size]; simp; omega
     have hDS := Lib.hid (show D ++ sOf S = sOf (d :: S) by rw [← hD]; exact sOf_append [d] S)
     have HDD := Lib.hid hdd
     clear hcb hD hdd
     go_wp2_with fail
     go_roundw
     case rel =>
      obtain ⟨hz, hle, hnil, hdec⟩ := HH.out
      obtain ⟨hvn, hvl, hvd, hx2, hB2, hbn⟩ := H2.out
      refine ⟨c', d :: S, congrArg Value.string hDS.out, by simp, by omega, hvd, by omega, by simp, ?_, heap_alloc_under _ hx2, hB2.alloc hB2.size _⟩
      rw [hdec, rest_step (num c) S hz, hvn, show (10 * num c' + r') / 10 = num c' by omega, show (10 * num c' + r') % 10 = r' by omega, HDD.out]
      have e1 : restD (num c') (S ++ [d]) = restD (num c') (d :: S) := by simp [restD]
      rw [e1]; simp
     case measure =>
      obtain ⟨hz, hle, hnil, hdec⟩ := HH.out
      obtain ⟨hvn, hvl, hvd, hx2, hB2, hbn⟩ := H2.out
      rw [blkNum_of (heap_alloc_under _ hx2), hbn, hDS.out]
      simp only [strLen, sOf_size, List.length_cons]
      rw [if_neg (by omega)]
      by_cases h0 : num c = 0
      ·have : S = [] := Classical.not_not.1 (fun h => hz ⟨h0, h⟩)
       subst this; simp; omega
      ·split <;> omega
    ·obtain ⟨k, rfl⟩ : ∃ k, m = k + 1 := ⟨m - 1, by omega⟩
     have ek : ((k + 1 : Nat) : Int) - 1 = (k : Int) := by omega
     rw [ek]
     have c1 := arr_cell hx2 (k := k) (by rw [dvK_len c _ (by omega)]; omega)
     rw [dvK_at c k (by omega)] at c1
     have hs := dvK_set c k (by omega)
     have hdr := drop_cons c k (by omega)
     have hr0 := dv_rest (c.drop (k + 1))
     have hx0 := getD_lt hd k
     have hdk : dv (c.drop k) = (((dv (c.drop (k + 1))).2 * 65536 + c.getD k 0) / 10 :: (dv (c.drop (k + 1))).1, ((dv (c.drop (k + 1))).2 * 65536 + c.getD k 0) % 10) := by rw [hdr]; rfl
     obtain ⟨x, hxe⟩ : ∃ x, c.getD k 0 = x := ⟨_, rfl⟩
     obtain ⟨q, hq⟩ : ∃ q, (dv (c.drop (k + 1))).1 = q := ⟨_, rfl⟩
     obtain ⟨r', hr'⟩ : ∃ r', (dv (c.drop (k + 1))).2 = r' := ⟨_, rfl⟩
     rw [hxe] at c1 hs hx0 hdk
     rw [hr'] at hs hr0 hdk
     rw [hq] at hdk
     rw [hr', hq]
     have fz : ∀ o, wr.frozen? ⟨w.heap.size, o, none⟩ = false := fun o => by simp [World.frozen?, hx2]
     have lx := lt_of_block hx2
     have e3 := arr_setc hx2 k ((r' * 65536 + x) / 10)
     rw [hs] at e3
     have H3 := Lib.hid (And.intro e3 (And.intro hdk hB2))
     clear hx2 hs hdr hdk hxe hq hr' e3 hx hB dz hB2 ek
     by_cases hqz : num q = 0
     ·have dq : decide (num q = 0) = true := by simpa using hqz
      rw [dq]
      go_wp2_with fail
      constructor
      ·obtain ⟨e3, hdk, hB2⟩ := H3.out
       refine ⟨k, by omega, rfl, by rw [hdk]; simp, ?_, e3, hB2.setCell (by simp) _⟩
       rw [hdk]
       simp only [num, hqz, Nat.mul_zero, Nat.add_zero]
       congr 1
       rw [Bool.eq_iff_iff]
       simp only [beq_iff_eq, decide_eq_true_eq]
       omega
      ·simp [intOf]
     ·have dq : decide (num q = 0) = false := by simpa using hqz
      rw [dq]
      go_wp2_with fail
      constructor
      ·obtain ⟨e3, hdk, hB2⟩ := H3.out
       refine ⟨k, by omega, rfl, by rw [hdk]; simp, ?_, e3, hB2.setCell (by simp) _⟩
       rw [hdk]
       congr 1
       symm
       simp only [num]
       exact decide_eq_false (by omega)
      ·simp [intOf]
set_option maxHeartbeats 6000000 in
theorem ltext_neg (c0 : List Nat) (hc0 : c0.length = 10) (hd0 : ∀ d ∈ c0, d < 65536) (htop : 32768 ≤ c0.getD 9 0) (N : Nat) (hN : num (minusL c0) = N) (hNb : N ≤ 9223372036854775808) (w : World) :
  Calls Tryz.prog 45 #[.agg (arrL c0)] w fun e w' => e = .returned (.string (sOf ((45 : UInt8) :: Lib.decDigits N))) ∧ Below w.heap.size w w' := by
 have dtop : decide ((32768 : Int) ≤ ((c0.getD 9 0 : Nat) : Int)) = true := by simp only [decide_eq_true_eq]; omega
 have HBw := Lib.hid fun w => lbelow_any c0 hc0 w
 rw [dtop] at HBw
 have x0 : (w.alloc (.cells (arrL c0) 93)).heap[w.heap.size]? = some (Obj.cells (arrL c0) 93 (0, 0)) := heap_alloc_at _ rfl
 have kb0 : Below w.heap.size w (w.alloc (.cells (arrL c0) 93)) := (Below.refl _ _).alloc (Nat.le_refl _) _
 have hl21 : (Lib.decDigits N).length ≤ 20 := by
  by_cases h1 : 1 ≤ N
  ·have h := itoa_len (-(N : Int)) (by omega) (by omega)
   rw [Lib.itoa_neg N h1, List.length_cons] at h
   omega
  ·have h := itoa_len (N : Int) (by omega) (by omega)
   rw [Lib.itoa_nonneg] at h
   exact h
 obtain ⟨a0, a1, a2, a3, a4, a5, a6, a7, a8, a9, hex⟩ := ten c0 hc0
 have hx0 : (w.alloc (.cells (arrL c0) 93)).heap[w.heap.size]? = some (Obj.cells #[.int .i64 (a0 : Int), .int .i64 (a1 : Int), .int .i64 (a2 : Int), .int .i64 (a3 : Int), .int .i64 (a4 : Int), .int .i64 (a5 : Int), .int .i64 (a6 : Int), .int .i64 (a7 : Int), .int .i64 (a8 : Int), .int .i64 (a9 : Int)] 93 (0, 0)) := by rw [x0, hex]; rfl
 have hval : arrL c0 = #[.int .i64 (a0 : Int), .int .i64 (a1 : Int), .int .i64 (a2 : Int), .int .i64 (a3 : Int), .int .i64 (a4 : Int), .int .i64 (a5 : Int), .int .i64 (a6 : Int), .int .i64 (a7 : Int), .int .i64 (a8 : Int), .int .i64 (a9 : Int)] := by rw [hex]; rfl
 have q0 := cell_of_heap hx0 0 _ rfl
 have q1 := cell_of_heap hx0 1 _ rfl
 have q2 := cell_of_heap hx0 2 _ rfl
 have q3 := cell_of_heap hx0 3 _ rfl
 have q4 := cell_of_heap hx0 4 _ rfl
 have q5 := cell_of_heap hx0 5 _ rfl
 have q6 := cell_of_heap hx0 6 _ rfl
 have q7 := cell_of_heap hx0 7 _ rfl
 have q8 := cell_of_heap hx0 8 _ rfl
 have q9 := cell_of_heap hx0 9 _ rfl
 have HV := Lib.hid hval
 rw [hval] at HBw
 clear dtop htop hex
 go_enter Tryz.func45, Tryz.ntmps45
 go_wp2_with fail
 refine (HBw.out _).mono ?_
 rintro e w1 ⟨rfl, hb1⟩
 have x1 : w1.heap[w.heap.size]? = some (Obj.cells (arrL c0) 93 (0, 0)) := by
  rw [HV.out] at hx0 ⊢; exact (hb1.block w.heap.size (by simp)).trans hx0
 have kb1 : Below w.heap.size w w1 := by
  rw [HV.out] at kb0; exact kb0.trans (hb1.mono (by simp))
 have x1' : w1.heap[w.heap.size]? = some (Obj.cells #[.int .i64 (a0 : Int), .int .i64 (a1 : Int), .int .i64 (a2 : Int), .int .i64 (a3 : Int), .int .i64 (a4 : Int), .int .i64 (a5 : Int), .int .i64 (a6 : Int), .int .i64 (a7 : Int), .int .i64 (a8 : Int), .int .i64 (a9 : Int)] 93 (0, 0)) := by rw [← HV.out]; exact x1
 have hm0 := Lib.hid fun w => lminus_any c0 hc0 hd0 w
 have hc1 : (minusL c0).length = 10 := by simp [minusL]
 have hd1 : ∀ d ∈ minusL c0, d < 65536 := plus_lt _ _
 obtain ⟨f0, f1, f2, f3, f4, f5, f6, f7, f8, f9, hten⟩ := ten (minusL c0) hc1
 have HT := Lib.hid hten
 rw [hval, hten, show arrL [f0, f1, f2, f3, f4, f5, f6, f7, f8, f9] = #[.int .i64 (f0 : Int), .int .i64 (f1 : Int), .int .i64 (f2 : Int), .int .i64 (f3 : Int), .int .i64 (f4 : Int), .int .i64 (f5 : Int), .int .i64 (f6 : Int), .int .i64 (f7 : Int), .int .i64 (f8 : Int), .int .i64 (f9 : Int)] from rfl] at hm0
 clear q0 q1 q2 q3 q4 q5 q6 q7 q8 q9 hx0 x0 kb0 HBw hb1 hval hten x1
 have q0 := cell_of_heap x1' 0 _ rfl
 have q1 := cell_of_heap x1' 1 _ rfl
 have q2 := cell_of_heap x1' 2 _ rfl
 have q3 := cell_of_heap x1' 3 _ rfl
 have q4 := cell_of_heap x1' 4 _ rfl
 have q5 := cell_of_heap x1' 5 _ rfl
 have q6 := cell_of_heap x1' 6 _ rfl
 have q7 := cell_of_heap x1' 7 _ rfl
 have q8 := cell_of_heap x1' 8 _ rfl
 have q9 := cell_of_heap x1' 9 _ rfl
 go_wp2_with fail
 refine (hm0.out _).mono ?_
 rintro e w2 ⟨rfl, hb2⟩
 have l1 := lt_of_block x1'
 have x2 := (hb2.block w.heap.size (by omega)).trans x1'
 have kb2 : Below w.heap.size w w2 := kb1.trans (hb2.mono (by omega))
 have fz : ∀ o, w2.frozen? ⟨w.heap.size, o, none⟩ = false := fun o => by simp [World.frozen?, x2]
 have z0 := cell_of_heap x2 0 _ rfl
 have z1 := cell_of_heap x2 1 _ rfl
 have z2 := cell_of_heap x2 2 _ rfl
 have z3 := cell_of_heap x2 3 _ rfl
 have z4 := cell_of_heap x2 4 _ rfl
 have z5 := cell_of_heap x2 5 _ rfl
 have z6 := cell_of_heap x2 6 _ rfl
 have z7 := cell_of_heap x2 7 _ rfl
 have z8 := cell_of_heap x2 8 _ rfl
 have z9 := cell_of_heap x2 9 _ rfl
 clear q0
 clear q1
 clear q2
 clear q3
 clear q4
 clear q5
 clear q6
 clear q7
 clear q8
 clear q9
 have l2 := lt_of_block x2
 have HF := Lib.hid (And.intro (set10g x2 (.int .i64 (f0 : Int)) (.int .i64 (f1 : Int)) (.int .i64 (f2 : Int)) (.int .i64 (f3 : Int)) (.int .i64 (f4 : Int)) (.int .i64 (f5 : Int)) (.int .i64 (f6 : Int)) (.int .i64 (f7 : Int)) (.int .i64 (f8 : Int)) (.int .i64 (f9 : Int))) (below10 kb2 (b := w.heap.size) (Nat.le_refl _) (.int .i64 (f0 : Int)) (.int .i64 (f1 : Int)) (.int .i64 (f2 : Int)) (.int .i64 (f3 : Int)) (.int .i64 (f4 : Int)) (.int .i64 (f5 : Int)) (.int .i64 (f6 : Int)) (.int .i64 (f7 : Int)) (.int .i64 (f8 : Int)) (.int .i64 (f9 : Int))))
 clear x2 kb2 x1' kb1 hb2 hm0
 go_wp2_with fail
 obtain ⟨x1, kb1⟩ := HF.out
 obtain ⟨V, hV⟩ : ∃ V, ((((((((((w2.setCell ⟨w.heap.size, 0, none⟩ (.int .i64 (f0 : Int))).setCell ⟨w.heap.size, 1, none⟩ (.int .i64 (f1 : Int))).setCell ⟨w.heap.size, 2, none⟩ (.int .i64 (f2 : Int))).setCell ⟨w.heap.size, 3, none⟩ (.int .i64 (f3 : Int))).setCell ⟨w.heap.size, 4, none⟩ (.int .i64 (f4 : Int))).setCell ⟨w.heap.size, 5, none⟩ (.int .i64 (f5 : Int))).setCell ⟨w.heap.size, 6, none⟩ (.int .i64 (f6 : Int))).setCell ⟨w.heap.size, 7, none⟩ (.int .i64 (f7 : Int))).setCell ⟨w.heap.size, 8, none⟩ (.int .i64 (f8 : Int))).setCell ⟨w.heap.size, 9, none⟩ (.int .i64 (f9 : Int))) = V := ⟨_, rfl⟩
 rw [hV] at x1 kb1 ⊢
 rw [show #[.int .i64 (f0 : Int), .int .i64 (f1 : Int), .int .i64 (f2 : Int), .int .i64 (f3 : Int), .int .i64 (f4 : Int), .int .i64 (f5 : Int), .int .i64 (f6 : Int), .int .i64 (f7 : Int), .int .i64 (f8 : Int), .int .i64 (f9 : Int)] = arrL [f0, f1, f2, f3, f4, f5, f6, f7, f8, f9] from rfl, ← HT.out] at x1
 clear hV HF HV
 clear z0
 clear z1
 clear z2
 clear z3
 clear z4
 clear z5
 clear z6
 clear z7
 clear z8
 clear z9
 go_loopw [4, 5] (fun s z wr => ∃ (c : List Nat) (S : List UInt8), s = .string (sOf S) ∧ z = .bool (decide (num c = 0 ∧ S ≠ [])) ∧ c.length = 10 ∧ (∀ d ∈ c, d < 65536) ∧ num c ≤ N ∧ (S = [] → num c = N) ∧ Lib.decDigits N = restD (num c) S ++ S ∧ wr.heap[w.heap.size]? = some (Obj.cells (arrL c) 93 (0, 0)) ∧ Below w.heap.size w wr) (fun s _ wr => 2 * blkNum w.heap.size wr + (if strLen s = 0 then 1 else 0))
 case atStart => exact ⟨minusL c0, [], rfl, by simp, hc1, hd1, by omega, fun _ => hN, by simp [restD, hN], x1, kb1⟩
 case round =>
  obtain ⟨c, S, rfl, rfl, hc, hd, hle, hnil, hdec, hx, hB⟩ := hrel
  have hSl : S.length ≤ 20 := by have := congrArg List.length hdec; simp at this; omega
  by_cases hz : num c = 0 ∧ S ≠ []
  ·have dz : decide (num c = 0 ∧ S ≠ []) = true := by simpa using hz
   have hemp : (sOf S).toList.isEmpty = false := by
    rw [ByteArray.toList_eq, sOf_list]
    match S, hz.2 with
    | d :: r, _ => rfl
   rw [dz]
   have hfin : Lib.decDigits N = S := by rw [hdec]; simp [restD, hz.1, hz.2]
   have HF := Lib.hid (And.intro hfin hB)
   have hcat : ¬ 9223372036854775807 < 1 + (sOf S).size := by rw [sOf_size]; omega
   have hsap := Lib.hid (sOf_append [45] S)
   clear hfin hB hx hdec hz
   go_wp2_with fail
   go_ret
   rw [HF.out.1]
   exact ⟨congrArg (fun z => Ending.returned (Value.string z)) hsap.out, HF.out.2⟩
  ·have dz : decide (num c = 0 ∧ S ≠ []) = false := by simpa using hz
   rw [dz]
   have HH := Lib.hid (And.intro hz (And.intro hle (And.intro hnil hdec)))
   clear hz hle hnil hdec
   go_wp2_with fail
   go_loopw [5, 6, 7] (fun z r m' wr => ∃ m : Nat, m ≤ 10 ∧ m' = .int .i64 ((m : Int) - 1) ∧ r = .int .i64 (((dv (c.drop m)).2 : Nat) : Int) ∧ z = .bool (decide (num (dv (c.drop m)).1 = 0)) ∧ wr.heap[w.heap.size]? = some (Obj.cells (arrL (dvK c m)) 93 (0, 0)) ∧ Below w.heap.size w wr) (fun _ _ m' _ => (intOf m' + 1).toNat)
   case atStart => exact ⟨10, by omega, rfl, by rw [List.drop_of_length_le (by omega)]; rfl, by rw [List.drop_of_length_le (by omega)]; rfl, by rw [dvK, List.drop_of_length_le (by omega), List.take_of_length_le (by omega)]; simpa [dv] using hx, hB⟩
   case round =>
    obtain ⟨m, hm, rfl, rfl, rfl, hx2, hB2⟩ := hrel
    by_cases hm0 : m = 0
    ·subst hm0
     have e0 : ((0 : Nat) : Int) - 1 = -1 := rfl
     rw [e0]
     simp only [List.drop_zero] at hx2 ⊢
     have hv0 := dv_rest c
     have hvn := dv_num c
     have hvl := dv_len c
     have hvd := dv_lt c hd
     have hK0 : dvK c 0 = (dv c).1 := by simp [dvK]
     rw [hK0] at hx2
     have hbn := blkNum_of hx
     obtain ⟨c', hc'⟩ : ∃ c', (dv c).1 = c' := ⟨_, rfl⟩
     obtain ⟨r', hr'⟩ : ∃ r', (dv c).2 = r' := ⟨_, rfl⟩
     rw [hc', hr'] at hvn
     rw [hr'] at hv0
     rw [hc'] at hx2 hvl hvd
     rw [hc', hr']
     have H2 := Lib.hid (And.intro hvn (And.intro hvl (And.intro hvd (And.intro hx2 (And.intro hB2 hbn)))))
     clear hvn hvl hvd hx2 hB2 hx hB hc' hr' hK0 hd e0 dz hbn
     obtain ⟨d, hdd⟩ : ∃ d, UInt8.ofNat (48 + r') = d := ⟨_, rfl⟩
     have hcb := byte48 r' hv0
     rw [hdd] at hcb
     have hcv : (convert 45 9 (.slice (some ⟨wr.heap.size, 0, none⟩) 1 1)).run Tryz.prog (wr.alloc (.cells #[.int .u8 (48 + (r' : Int))] 5)) = .ok (.string ⟨[d].toArray⟩) (wr.alloc (.cells #[.int .u8 (48 + (r' : Int))] 5)) := by
      rw [← hcb]
      refine run_convert_bytes_back (P := Tryz.prog) _ 45 9 5 ⟨wr.heap.size, 0, none⟩ 1 [d] Tryz.underlying45 Tryz.underlying5 Tryz.underlying9 (fun j hj => ?_)
      match j, hj with
      | 0, _ => exact cell_of_heap (heap_alloc_at _ rfl) 0 _ rfl
     obtain ⟨D, hD⟩ : ∃ D : ByteArray, ⟨[d].toArray⟩ = D := ⟨_, rfl⟩
     rw [hD] at hcv
     have hcat : ¬ 9223372036854775807 < D.size + (sOf S).size := by
      rw [← hD, sOf_size]; show ¬ 9223372036854775807 < (sOf [d]).size + _; rw [sOf_size]; simp; omega
     have hDS := Lib.hid (show D ++ sOf S = sOf (d :: S) by rw [← hD]; exact sOf_append [d] S)
     have HDD := Lib.hid hdd
     clear hcb hD hdd
     go_wp2_with fail
     go_roundw
     case rel =>
      obtain ⟨hz, hle, hnil, hdec⟩ := HH.out
      obtain ⟨hvn, hvl, hvd, hx2, hB2, hbn⟩ := H2.out
      refine ⟨c', d :: S, congrArg Value.string hDS.out, by simp, by omega, hvd, by omega, by simp, ?_, heap_alloc_under _ hx2, hB2.alloc hB2.size _⟩
      rw [hdec, rest_step (num c) S hz, hvn, show (10 * num c' + r') / 10 = num c' by omega, show (10 * num c' + r') % 10 = r' by omega, HDD.out]
      have e1 : restD (num c') (S ++ [d]) = restD (num c') (d :: S) := by simp [restD]
      rw [e1]; simp
     case measure =>
      obtain ⟨hz, hle, hnil, hdec⟩ := HH.out
      obtain ⟨hvn, hvl, hvd, hx2, hB2, hbn⟩ := H2.out
      rw [blkNum_of (heap_alloc_under _ hx2), hbn, hDS.out]
      simp only [strLen, sOf_size, List.length_cons]
      rw [if_neg (by omega)]
      by_cases h0 : num c = 0
      ·have : S = [] := Classical.not_not.1 (fun h => hz ⟨h0, h⟩)
       subst this; simp; omega
      ·split <;> omega
    ·obtain ⟨k, rfl⟩ : ∃ k, m = k + 1 := ⟨m - 1, by omega⟩
     have ek : ((k + 1 : Nat) : Int) - 1 = (k : Int) := by omega
     rw [ek]
     have c1 := arr_cell hx2 (k := k) (by rw [dvK_len c _ (by omega)]; omega)
     rw [dvK_at c k (by omega)] at c1
     have hs := dvK_set c k (by omega)
     have hdr := drop_cons c k (by omega)
     have hr0 := dv_rest (c.drop (k + 1))
     have hx0 := getD_lt hd k
     have hdk : dv (c.drop k) = (((dv (c.drop (k + 1))).2 * 65536 + c.getD k 0) / 10 :: (dv (c.drop (k + 1))).1, ((dv (c.drop (k + 1))).2 * 65536 + c.getD k 0) % 10) := by rw [hdr]; rfl
     obtain ⟨x, hxe⟩ : ∃ x, c.getD k 0 = x := ⟨_, rfl⟩
     obtain ⟨q, hq⟩ : ∃ q, (dv (c.drop (k + 1))).1 = q := ⟨_, rfl⟩
     obtain ⟨r', hr'⟩ : ∃ r', (dv (c.drop (k + 1))).2 = r' := ⟨_, rfl⟩
     rw [hxe] at c1 hs hx0 hdk
     rw [hr'] at hs hr0 hdk
     rw [hq] at hdk
     rw [hr', hq]
     have fz : ∀ o, wr.frozen? ⟨w.heap.size, o, none⟩ = false := fun o => by simp [World.frozen?, hx2]
     have lx := lt_of_block hx2
     have e3 := arr_setc hx2 k ((r' * 65536 + x) / 10)
     rw [hs] at e3
     have H3 := Lib.hid (And.intro e3 (And.intro hdk hB2))
     clear hx2 hs hdr hdk hxe hq hr' e3 hx hB dz hB2 ek
     by_cases hqz : num q = 0
     ·have dq : decide (num q = 0) = true := by simpa using hqz
      rw [dq]
      go_wp2_with fail
      constructor
      ·obtain ⟨e3, hdk, hB2⟩ := H3.out
       refine ⟨k, by omega, rfl, by rw [hdk]; simp, ?_, e3, hB2.setCell (by simp) _⟩
       rw [hdk]
       simp only [num, hqz, Nat.mul_zero, Nat.add_zero]
       congr 1
       rw [Bool.eq_iff_iff]
       simp only [beq_iff_eq, decide_eq_true_eq]
       omega
      ·simp [intOf]
     ·have dq : decide (num q = 0) = false := by simpa using hqz
      rw [dq]
      go_wp2_with fail
      constructor
      ·obtain ⟨e3, hdk, hB2⟩ := H3.out
       refine ⟨k, by omega, rfl, by rw [hdk]; simp, ?_, e3, hB2.setCell (by simp) _⟩
       rw [hdk]
       congr 1
       symm
       simp only [num]
       exact decide_eq_false (by omega)
      ·simp [intOf]
end Go.Proofs.YtbhppbeepmllaaaGreatDoor

namespace Go.Proofs.YtbhppbeepmllaaaGreatDoor
open Go.RowKit

theorem ltext_long (n : Int) (h0 : -9223372036854775808 ≤ n) (h1 : n ≤ 9223372036854775807) (w : World) :
  Calls Tryz.prog 45 #[.agg (arrL (longD n))] w fun e w' => e = .returned (.string (sOf (Lib.itoa n))) ∧ Below w.heap.size w w' := by
 have ht := longD_top n (by omega) (by omega)
 have hn := longD_num n
 by_cases hneg : n < 0
 ·obtain ⟨u, hu, hu1⟩ : ∃ u : Nat, n = -(u : Int) ∧ 1 ≤ u := ⟨(-n).toNat, by omega, by omega⟩
  have hm := longD_num (-n)
  rw [← minus_long] at hm
  subst hu
  rw [Lib.itoa_neg u hu1]
  refine ltext_neg _ (longD_len _) (longD_lt _) ?_ u ?_ (by omega) w
  ·simp only [decide_eq_decide] at ht
   omega
  ·omega
 ·obtain ⟨u, hu⟩ : ∃ u : Nat, n = (u : Int) := ⟨n.toNat, by omega⟩
  subst hu
  rw [Lib.itoa_nonneg u]
  refine ltext_pos _ (longD_len _) (longD_lt _) ?_ u ?_ (by omega) w
  ·simp only [decide_eq_decide] at ht
   omega
  ·omega
theorem rtext_any (n : Int) (h0 : -9223372036854775808 ≤ n) (h1 : n ≤ 9223372036854775807) (w : World) :
  Calls Tryz.prog 53 #[.int .i64 n] w fun e w' => e = .returned (.string (sOf (Lib.itoa n))) ∧ Below w.heap.size w w' := by
 have HA := Lib.hid (lof_any n h0 h1 w)
 rw [ofO_long n h0 h1] at HA
 have HB := Lib.hid fun w => ltext_long n h0 h1 w
 obtain ⟨L, hL⟩ : ∃ L, arrL (longD n) = L := ⟨_, rfl⟩
 rw [hL] at HA HB
 obtain ⟨R, hR⟩ : ∃ R, sOf (Lib.itoa n) = R := ⟨_, rfl⟩
 rw [hR] at HB ⊢
 clear hL hR
 go_enter Tryz.func53, Tryz.ntmps53
 go_wp2_with fail
 refine HA.out.mono ?_
 rintro e w1 ⟨rfl, hb⟩
 go_wp2_with fail
 refine (HB.out _).mono ?_
 rintro e w2 ⟨rfl, hb2⟩
 have hk := hb.trans (hb2.mono hb.size)
 go_wp2_with fail
 go_ret
 exact ⟨rfl, hk⟩
theorem gtext_any (n : Int) (h0 : -9223372036854775808 ≤ n) (h1 : n ≤ 9223372036854775807) (w : World) :
  Calls Tryz.prog 14 #[.int .i64 n] w fun e w' => e = .returned (.string (sOf (Lib.itoa n))) ∧ Below w.heap.size w w' := by
 have HA := Lib.hid (rtext_any n h0 h1 w)
 obtain ⟨R, hR⟩ : ∃ R, sOf (Lib.itoa n) = R := ⟨_, rfl⟩
 rw [hR] at HA ⊢
 clear hR
 go_enter Tryz.func14, Tryz.ntmps14
 go_wp2_with fail
 refine HA.out.mono ?_
 rintro e w1 ⟨rfl, hb⟩
 go_wp2_with fail
 go_ret
 exact ⟨rfl, hb⟩
end Go.Proofs.YtbhppbeepmllaaaGreatDoor
