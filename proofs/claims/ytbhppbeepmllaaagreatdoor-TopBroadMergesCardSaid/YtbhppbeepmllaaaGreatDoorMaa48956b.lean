import Derived.Test.YtbhppbeepmllaaaGreatDoorM7c9a3815
import Derived.Test.YtbhppbeepmllaaaGreatDoorM28250462
import Derived.Test.YtbhppbeepmllaaaGreatDoorMdb9ab3e7
import Derived.Test.YtbhppbeepmllaaaGreatDoorM84be9b01
import Derived.Test.YtbhppbeepmllaaaGreatDoorMf83d1c4f
set_option linter.unusedVariables false
set_option linter.unusedSimpArgs false
set_option maxRecDepth 100000
set_option maxHeartbeats 2000000
namespace Go.Proofs.YtbhppbeepmllaaaGreatDoor
open Go.RowKit

def k64 (K : List Nat) : List Value := K.map fun k : Nat => Value.int .u64 (k : Int)
structure BdRow (B0 : Nat) (w : World) (bd ag : Nat) (c : Cfg) (K : List Nat) (F : Nat → List Int) (kv : Value) (fv : Nat → Value) : Prop where
 hd : w.heap[bd]? = some (.cells #[.pointer (some ⟨ag, 0, none⟩), .int .i64 c.b, .int .i64 c.r, .int .i64 c.wd, .int .i64 c.m, .int .u64 c.s, kv, fv 0, fv 1, fv 2] 37 (0, 0))
 kr : w.ownsRow B0 22 1 kv K.length (k64 K)
 fr : ∀ h, h < 3 → w.ownsRow B0 2 1 (fv h) K.length (i64s (F h))
 fl : ∀ h, h < 3 → (F h).length = K.length
 ff : ∀ g h, g < 3 → h < 3 → g ≠ h → ∀ b, (fv g).ownBlock = some b → (fv h).ownBlock ≠ some b
 lo : B0 ≤ bd
variable {B0 : Nat} {w w' : World} {bd ag : Nat} {c : Cfg} {K : List Nat} {F : Nat → List Int} {kv : Value} {fv : Nat → Value}
theorem BdRow.below (S : BdRow B0 w bd ag c K F kv fv) (hb : Below w.heap.size w w') : BdRow B0 w' bd ag c K F kv fv :=
 ⟨(hb.block bd (lt_of_block S.hd)).trans S.hd, own_below S.kr hb, fun h h3 => own_below (S.fr h h3) hb, S.fl, S.ff, S.lo⟩
theorem BdRow.upd {P : Nat → Prop} (S : BdRow B0 w bd ag c K F kv fv) (hu : Upd P w w') (hbd : ¬ P bd) (hk : ∀ b, kv.ownBlock = some b → ¬ P b) (hf : ∀ h, h < 3 → ∀ b, (fv h).ownBlock = some b → ¬ P b) : BdRow B0 w' bd ag c K F kv fv :=
 ⟨(hu.block bd (lt_of_block S.hd) hbd).trans S.hd, own_same S.kr (fun g hg => hu.block g (S.kr.lt g hg).2 (hk g hg)), fun h h3 => own_same (S.fr h h3) (fun g hg => hu.block g ((S.fr h h3).lt g hg).2 (hf h h3 g hg)), S.fl, S.ff, S.lo⟩
theorem BdRow.key (S : BdRow B0 w bd ag c K F kv fv) {i : Nat} (hi : i < K.length) : ∃ g cap, kv = .slice (some ⟨g, 0, none⟩) K.length cap ∧ w.cell? ⟨g, i, none⟩ = some (.int .u64 ((K.getD i 0 : Nat) : Int)) := by
 obtain ⟨g, cap, hv⟩ : ∃ g cap, kv = .slice (some ⟨g, 0, none⟩) K.length cap := by
  rcases S.kr.2 with ⟨h1, h2⟩ | ⟨g, cap, cur, h1, _⟩
  ·omega
  ·exact ⟨g, cap, h1⟩
 subst hv
 refine ⟨g, cap, rfl, (S.kr.cellAt i (by omega)).trans ?_⟩
 simp [k64, List.getD_eq_getElem?_getD, List.getElem?_eq_getElem hi]
theorem BdRow.val (S : BdRow B0 w bd ag c K F kv fv) {h i : Nat} (h3 : h < 3) (hi : i < K.length) : ∃ g cap, fv h = .slice (some ⟨g, 0, none⟩) K.length cap ∧ w.cell? ⟨g, i, none⟩ = some (.int .i64 ((F h).getD i 0)) := by
 have hr := S.fr h h3
 have hl := S.fl h h3
 obtain ⟨g, cap, hv⟩ : ∃ g cap, fv h = .slice (some ⟨g, 0, none⟩) K.length cap := by
  rcases hr.2 with ⟨h1, h2⟩ | ⟨g, cap, cur, h1, _⟩
  ·omega
  ·exact ⟨g, cap, h1⟩
 rw [hv] at hr
 refine ⟨g, cap, hv, (hr.cellAt i (by omega)).trans ?_⟩
 simp [i64s, List.getD_eq_getElem?_getD, List.getElem?_eq_getElem (show i < (F h).length by omega)]
theorem BdRow.kform (S : BdRow B0 w bd ag c K F kv fv) : ∃ o cap, kv = .slice o K.length cap := own_form S.kr
theorem BdRow.cellF (S : BdRow B0 w bd ag c K F kv fv) {h : Nat} (h3 : h < 3) : w.cell? ⟨bd, 7 + h, none⟩ = some (fv h) := by
 match h, h3 with
 | 0, _ => exact cell_of_heap S.hd 7 _ rfl
 | 1, _ => exact cell_of_heap S.hd 8 _ rfl
 | 2, _ => exact cell_of_heap S.hd 9 _ rfl
theorem sumIf_bd (p : Nat → Bool) (M : Int) (hM : 0 ≤ M) : ∀ (K : List Nat) (F : List Int), (∀ x ∈ F, -M ≤ x ∧ x ≤ M) → -(M * (F.length : Int)) ≤ sumIf p K F ∧ sumIf p K F ≤ M * (F.length : Int)
 | [], F, _ => by
  have : 0 ≤ M * (F.length : Int) := Int.mul_nonneg hM (by omega)
  simp only [sumIf]; omega
 | a :: K, [], _ => by simp [sumIf]
 | a :: K, b :: F, h => by
  have ih := sumIf_bd p M hM K F (fun x hx => h x (by simp [hx]))
  have hb := h b (by simp)
  simp only [sumIf, List.length_cons]
  rw [show (((F.length + 1 : Nat) : Int)) = (F.length : Int) + 1 by omega, Int.mul_add]
  split <;> omega
def Mid (F : List Int) : Prop := F.length ≤ 4096 ∧ ∀ x ∈ F, -1125899906842624 ≤ x ∧ x ≤ 1125899906842624
theorem Mid.sum {F : List Int} (h : Mid F) (p : Nat → Bool) (K : List Nat) (i : Nat) : -4611686018427387904 ≤ sumIf p (K.take i) (F.take i) ∧ sumIf p (K.take i) (F.take i) ≤ 4611686018427387904 := by
 have := sumIf_bd p 1125899906842624 (by decide) (K.take i) (F.take i) (fun x hx => h.2 x (List.mem_of_mem_take hx))
 have h1 := h.1
 rw [List.length_take] at this
 omega
theorem Mid.at {F : List Int} (h : Mid F) (i : Nat) : -1125899906842624 ≤ F.getD i 0 ∧ F.getD i 0 ≤ 1125899906842624 := by
 rw [List.getD_eq_getElem?_getD]
 by_cases hi : i < F.length
 ·rw [List.getElem?_eq_getElem hi]; exact h.2 _ (List.getElem_mem hi)
 ·rw [List.getElem?_eq_none (by omega)]; decide
end Go.Proofs.YtbhppbeepmllaaaGreatDoor

namespace Go.Proofs.YtbhppbeepmllaaaGreatDoor
open Go.RowKit

theorem and16 (a : Int) : bits BinOp.and IntKind.i64 a 65535 = a % 65536 := by
 show IntKind.i64.wrap ((BitVec.ofInt 64 a &&& BitVec.ofInt 64 65535).toNat : Int) = _
 have e1 : (BitVec.ofInt 64 a).toNat = (a % 18446744073709551616).toNat := by
  rw [BitVec.toNat_ofInt]; rfl
 have e2 : (BitVec.ofInt 64 65535).toNat = 65535 := rfl
 rw [BitVec.toNat_and, e1, e2, show (a % 18446744073709551616).toNat &&& 65535 = (a % 18446744073709551616).toNat % 65536 from Nat.and_two_pow_sub_one_eq_mod _ 16, IntKind.wrap_i64]
 omega
theorem ghandle_any (a : Int) (w : World) :
  Calls Tryz.prog 31 #[.int .i64 a] w fun e w' => e = .returned (.int .i64 ((a % 65536) % 3)) ∧ w' = w := by
 have h := and16 a
 have e : (a % 65536).tmod 3 = (a % 65536) % 3 := Int.tmod_eq_emod_of_nonneg (by omega)
 have HE := Lib.hid (show (bits BinOp.and IntKind.i64 a 65535).tmod 3 = (a % 65536) % 3 by rw [h, e])
 clear h e
 go_enter Tryz.func31, Tryz.ntmps31
 go_wp2_with fail
 go_ret
 exact ⟨congrArg (fun z => Ending.returned (Value.int IntKind.i64 z)) HE.out, rfl⟩
def smallI (m : Nat) (d : Int) : Int := if m = 2 then max (d.tmod 1048576) (-(d.tmod 1048576)) else d.tmod 1048576
theorem small_bd (m : Nat) (d : Int) : -1048576 < smallI m d ∧ smallI m d < 1048576 ∧ (m = 2 → 0 ≤ smallI m d) := by
 have h1 : (d.tmod 1048576).natAbs < 1048576 := by
  have := Int.natAbs_tmod d 1048576
  rw [this]
  exact Nat.mod_lt _ (by decide)
 unfold smallI
 split
 ·omega
 ·refine ⟨by omega, by omega, fun h => by omega⟩
theorem gsmall_any (c : Cfg) (R : c.Ok) (d : Int) (h0 : -9223372036854775808 ≤ d) (h1 : d ≤ 9223372036854775807) (w : World) :
  Calls Tryz.prog 37 #[.agg #[.int .i64 c.b, .int .i64 c.r, .int .i64 c.wd, .int .i64 c.m, .int .u64 c.s], .int .i64 d] w fun e w' => e = .returned (.int .i64 (smallI c.m d)) ∧ Below w.heap.size w w' := by
 have x0 : (w.alloc (.cells #[.int .i64 c.b, .int .i64 c.r, .int .i64 c.wd, .int .i64 c.m, .int .u64 c.s] 24)).heap[w.heap.size]? = some (Obj.cells #[.int .i64 c.b, .int .i64 c.r, .int .i64 c.wd, .int .i64 c.m, .int .u64 c.s] 24 (0, 0)) := heap_alloc_at _ rfl
 have kb : Below w.heap.size w (w.alloc (.cells #[.int .i64 c.b, .int .i64 c.r, .int .i64 c.wd, .int .i64 c.m, .int .u64 c.s] 24)) := (Below.refl _ _).alloc (Nat.le_refl _) _
 have q3 := cell_of_heap x0 3 _ rfl
 have h1 : (d.tmod 1048576).natAbs < 1048576 := by
  have := Int.natAbs_tmod d 1048576
  rw [this]
  exact Nat.mod_lt _ (by decide)
 have HE := Lib.hid (show smallI c.m d = if c.m = 2 then max (d.tmod 1048576) (-(d.tmod 1048576)) else d.tmod 1048576 from rfl)
 obtain ⟨t, ht⟩ : ∃ t, d.tmod 1048576 = t := ⟨_, rfl⟩
 rw [ht] at HE h1
 clear x0
 by_cases hm : c.m = 2
 ·have d1 : ((c.m : Int) == 2) = true := by simp; omega
  have HM := Lib.hid hm
  clear hm
  go_enter Tryz.func37, Tryz.ntmps37
  go_wp2_with fail
  go_ret
  exact ⟨congrArg (fun z => Ending.returned (Value.int IntKind.i64 z)) (by rw [HE.out, if_pos HM.out]), kb⟩
 ·have d1 : ((c.m : Int) == 2) = false := by simp; omega
  have HM := Lib.hid hm
  clear hm
  go_enter Tryz.func37, Tryz.ntmps37
  go_wp2_with fail
  go_ret
  exact ⟨congrArg (fun z => Ending.returned (Value.int IntKind.i64 z)) (by rw [HE.out, if_neg HM.out]), kb⟩
variable {B0 : Nat} {w w' : World} {bd ag : Nat} {c : Cfg} {K : List Nat} {F : Nat → List Int} {kv : Value} {fv : Nat → Value}
theorem gkey_any (S : BdRow B0 w bd ag c K F kv fv) (R : c.Ok) (k : Nat) (hk : k < 18446744073709551616) :
  Calls Tryz.prog 25 #[.pointer (some ⟨bd, 0, none⟩), .int .u64 (k : Int)] w fun e w' => e = .returned (.int .u64 ((k % c.keys 0 : Nat) : Int)) ∧ Below w.heap.size w w' := by
 have HK := Lib.hid fun w => gkeys_any c R 0 (Nat.zero_le _) w
 have hk1 : 1 ≤ c.keys 0 := Nat.one_le_two_pow
 have hk59 := c.keys_le R 0
 have p1 := cell_of_heap S.hd 1 _ rfl
 have p2 := cell_of_heap S.hd 2 _ rfl
 have p3 := cell_of_heap S.hd 3 _ rfl
 have p4 := cell_of_heap S.hd 4 _ rfl
 have p5 := cell_of_heap S.hd 5 _ rfl
 obtain ⟨n, hn⟩ : ∃ n, c.keys 0 = n := ⟨_, rfl⟩
 rw [hn] at HK hk1 hk59 ⊢
 clear hn S
 go_enter Tryz.func25, Tryz.ntmps25
 go_wp2_with fail
 refine (HK.out _).mono ?_
 rintro e w1 ⟨rfl, hb⟩
 go_wp2_with fail
 go_ret
 exact ⟨rfl, hb⟩
end Go.Proofs.YtbhppbeepmllaaaGreatDoor

namespace Go.Proofs.YtbhppbeepmllaaaGreatDoor
open Go.RowKit

structure BdR (B0 : Nat) (w : World) (bd ag : Nat) (c : Cfg) (K : List Nat) (L : Nat → List Int) (kv : Value) (fv : Nat → Value) : Prop where
 hd : w.heap[bd]? = some (.cells #[.pointer (some ⟨ag, 0, none⟩), .int .i64 c.b, .int .i64 c.r, .int .i64 c.wd, .int .i64 c.m, .int .u64 c.s, kv, fv 0, fv 1, fv 2] 37 (0, 0))
 kr : w.ownsRow B0 22 1 kv K.length (k64 K)
 fr : ∀ h, h < 3 → w.ownsRow B0 2 1 (fv h) (L h).length (i64s (L h))
 ff : ∀ g h, g < 3 → h < 3 → g ≠ h → ∀ b, (fv g).ownBlock = some b → (fv h).ownBlock ≠ some b
 lo : B0 ≤ bd
variable {B0 : Nat} {w w' w1 : World} {bd ag : Nat} {c : Cfg} {K : List Nat} {F L : Nat → List Int} {kv : Value} {fv : Nat → Value}
theorem BdRow.r (S : BdRow B0 w bd ag c K F kv fv) : BdR B0 w bd ag c K F kv fv := ⟨S.hd, S.kr, fun h h3 => by rw [S.fl h h3]; exact S.fr h h3, S.ff, S.lo⟩
theorem BdR.row (S : BdR B0 w bd ag c K L kv fv) (hl : ∀ h, h < 3 → (L h).length = K.length) : BdRow B0 w bd ag c K L kv fv := ⟨S.hd, S.kr, fun h h3 => by rw [← hl h h3]; exact S.fr h h3, hl, S.ff, S.lo⟩
theorem BdR.below (S : BdR B0 w bd ag c K L kv fv) (hb : Below w.heap.size w w') : BdR B0 w' bd ag c K L kv fv :=
 ⟨(hb.block bd (lt_of_block S.hd)).trans S.hd, own_below S.kr hb, fun h h3 => own_below (S.fr h h3) hb, S.ff, S.lo⟩
theorem BdR.cellF (S : BdR B0 w bd ag c K L kv fv) {h : Nat} (h3 : h < 3) : w.cell? ⟨bd, 7 + h, none⟩ = some (fv h) := by
 match h, h3 with
 | 0, _ => exact cell_of_heap S.hd 7 _ rfl
 | 1, _ => exact cell_of_heap S.hd 8 _ rfl
 | 2, _ => exact cell_of_heap S.hd 9 _ rfl
def bdF (bd : Nat) (kv : Value) (fv : Nat → Value) (k : Nat) : Prop := k = bd ∨ kv.ownBlock = some k ∨ ∃ h, h < 3 ∧ (fv h).ownBlock = some k
theorem BdR.fk (S : BdR B0 w bd ag c K L kv fv) {h b : Nat} (h3 : h < 3) (hb : (fv h).ownBlock = some b) : ∃ cur, w.heap[b]? = some (.cells cur 2 (0, 0)) := by
 rcases (S.fr h h3).2 with ⟨h1, _⟩ | ⟨g, cap, cur, h1, _, h2, _⟩
 ·rw [h1] at hb; cases hb
 ·rw [h1] at hb
  have e : g = b := by have : some g = some b := hb; exact Option.some.inj this
  subst e; exact ⟨cur, h2⟩
theorem BdR.kk (S : BdR B0 w bd ag c K L kv fv) {b : Nat} (hb : kv.ownBlock = some b) : ∃ cur, w.heap[b]? = some (.cells cur 22 (0, 0)) := by
 rcases S.kr.2 with ⟨h1, _⟩ | ⟨g, cap, cur, h1, _, h2, _⟩
 ·rw [h1] at hb; cases hb
 ·rw [h1] at hb
  have e : g = b := by have : some g = some b := hb; exact Option.some.inj this
  subst e; exact ⟨cur, h2⟩
theorem own_at {W : World} {B : Nat} {e : TypeId} {sz : Nat} {v : Value} {n : Nat} {xs : List Value} (h : W.ownsRow B e sz v n xs) {p : Addr} (u : Value) (hp : v.ownBlock ≠ some p.block) : (W.setCell p u).ownsRow B e sz v n xs :=
 own_same h (fun g hg => heap_setCell_other _ _ _ _ (by intro e; exact hp (by rw [hg, e])))
theorem BdR.push (S : BdR B0 w bd ag c K L kv fv) {j : Nat} (hj : j < 3) (o : Obj) (v' : Value) (hO : w1.ownsRow B0 2 1 v' ((L j).length + 1) (i64s (L j ++ [0]))) (hg : (w.alloc o).grownBy w1 (fv j).ownBlock)
  (hat : v'.ownBlock = (fv j).ownBlock ∨ v'.ownBlock = some (w.alloc o).heap.size) :
  BdR B0 (w1.setCell ⟨bd, 7 + j, none⟩ v') bd ag c K (fun g => if g = j then L j ++ [0] else L g) kv (fun g => if g = j then v' else fv g) := by
 have lbd := lt_of_block S.hd
 have hbd : w1.heap[bd]? = some (.cells #[.pointer (some ⟨ag, 0, none⟩), .int .i64 c.b, .int .i64 c.r, .int .i64 c.wd, .int .i64 c.m, .int .u64 c.s, kv, fv 0, fv 1, fv 2] 37 (0, 0)) := by
  refine (hg.block bd (by simp; omega) (fun e => ?_)).trans (heap_alloc_under _ S.hd)
  obtain ⟨cur, hc⟩ := S.fk hj e.symm
  exact kind_ne S.hd hc (by decide) rfl
 have hkv : ∀ b, kv.ownBlock = some b → w1.heap[b]? = w.heap[b]? := by
  intro b hb
  obtain ⟨cur, hc⟩ := S.kk hb
  refine (hg.block b (by have := lt_of_block hc; simp; omega) (fun e => ?_)).trans (Lib.alloc_old _ _ _ (lt_of_block hc))
  obtain ⟨cur2, hc2⟩ := S.fk hj e.symm
  exact kind_ne hc hc2 (by decide) rfl
 have hfv : ∀ h, h < 3 → h ≠ j → ∀ b, (fv h).ownBlock = some b → w1.heap[b]? = w.heap[b]? := by
  intro h h3 hne b hb
  obtain ⟨cur, hc⟩ := S.fk h3 hb
  refine (hg.block b (by have := lt_of_block hc; simp; omega) (fun e => ?_)).trans (Lib.alloc_old _ _ _ (lt_of_block hc))
  exact S.ff h j h3 hj hne b hb e.symm
 have nbk : kv.ownBlock ≠ some bd := own_ne_kind S.kr S.hd (by decide)
 have nbf : ∀ h, h < 3 → (fv h).ownBlock ≠ some bd := fun h h3 => own_ne_kind (S.fr h h3) S.hd (by decide)
 have nbv : v'.ownBlock ≠ some bd := by
  rcases hat with e | e
  ·rw [e]; exact nbf j hj
  ·rw [e]; intro x; have := Option.some.inj x; simp at this; omega
 refine ⟨?_, own_at (own_same S.kr hkv) _ nbk, fun h h3 => ?_, fun g h g3 h3 hne b hb => ?_, S.lo⟩
 ·rw [heap_setCell_same _ bd _ _ _ v' hbd]
  match j, hj with
  | 0, _ => rfl
  | 1, _ => rfl
  | 2, _ => rfl
 ·by_cases e : h = j
  ·subst e
   simp only [if_true, List.length_append, List.length_cons, List.length_nil]
   exact own_at hO _ nbv
  ·simp only [if_neg e]
   exact own_at (own_same (S.fr h h3) (hfv h h3 e)) _ (nbf h h3)
 ·by_cases eg : g = j
  ·subst eg
   simp only [if_true] at hb
   rw [if_neg (fun x => hne x.symm)]
   rcases hat with e | e
   ·exact S.ff g h g3 h3 hne b (e ▸ hb)
   ·rw [e] at hb
    intro x
    obtain ⟨cur, hc⟩ := S.fk h3 x
    have := lt_of_block hc
    have := Option.some.inj hb
    simp at this
    omega
  ·simp only [if_neg eg] at hb
   by_cases eh : h = j
   ·subst eh
    simp only [if_true]
    rcases hat with e | e
    ·rw [e]; exact S.ff g h g3 h3 hne b hb
    ·rw [e]
     intro x
     obtain ⟨cur, hc⟩ := S.fk g3 hb
     have := lt_of_block hc
     have := Option.some.inj x
     simp at this
     omega
   ·simp only [if_neg eh]
    exact S.ff g h g3 h3 hne b hb
theorem BdR.pushK (S : BdR B0 w bd ag c K L kv fv) (key : Nat) (o : Obj) (v' : Value) (hO : w1.ownsRow B0 22 1 v' (K.length + 1) (k64 (K ++ [key]))) (hg : (w.alloc o).grownBy w1 kv.ownBlock)
  (hat : v'.ownBlock = kv.ownBlock ∨ v'.ownBlock = some (w.alloc o).heap.size) :
  BdR B0 (w1.setCell ⟨bd, 6, none⟩ v') bd ag c (K ++ [key]) L v' fv := by
 have lbd := lt_of_block S.hd
 have hbd : w1.heap[bd]? = some (.cells #[.pointer (some ⟨ag, 0, none⟩), .int .i64 c.b, .int .i64 c.r, .int .i64 c.wd, .int .i64 c.m, .int .u64 c.s, kv, fv 0, fv 1, fv 2] 37 (0, 0)) := by
  refine (hg.block bd (by simp; omega) (fun e => ?_)).trans (heap_alloc_under _ S.hd)
  obtain ⟨cur, hc⟩ := S.kk e.symm
  exact kind_ne S.hd hc (by decide) rfl
 have hfv : ∀ h, h < 3 → ∀ b, (fv h).ownBlock = some b → w1.heap[b]? = w.heap[b]? := by
  intro h h3 b hb
  obtain ⟨cur, hc⟩ := S.fk h3 hb
  refine (hg.block b (by have := lt_of_block hc; simp; omega) (fun e => ?_)).trans (Lib.alloc_old _ _ _ (lt_of_block hc))
  obtain ⟨cur2, hc2⟩ := S.kk e.symm
  exact kind_ne hc hc2 (by decide) rfl
 have nbf : ∀ h, h < 3 → (fv h).ownBlock ≠ some bd := fun h h3 => own_ne_kind (S.fr h h3) S.hd (by decide)
 have nbv : v'.ownBlock ≠ some bd := by
  rcases hat with e | e
  ·rw [e]; exact own_ne_kind S.kr S.hd (by decide)
  ·rw [e]; intro x; have := Option.some.inj x; simp at this; omega
 refine ⟨?_, ?_, fun h h3 => own_at (own_same (S.fr h h3) (hfv h h3)) _ (nbf h h3), S.ff, S.lo⟩
 ·rw [heap_setCell_same _ bd _ _ _ v' hbd]; rfl
 ·rw [List.length_append]; exact own_at hO _ nbv
end Go.Proofs.YtbhppbeepmllaaaGreatDoor

namespace Go.Proofs.YtbhppbeepmllaaaGreatDoor
open Go.RowKit

theorem heapcell_alloc {w : World} {p : Addr} {v : Value} (o : Obj) (h : w.cell? p = some v) : (w.alloc o).cell? p = some v := by
 have hl : p.block < w.heap.size := by
  unfold World.cell? at h
  by_cases e : p.block < w.heap.size
  ·exact e
  ·rw [Array.getElem?_eq_none (by omega)] at h; simp at h
 exact (((Below.refl w.heap.size w).alloc (Nat.le_refl _) o).cell hl).trans h
variable {B0 : Nat} {w w' w1 : World} {bd ag : Nat} {c : Cfg} {K : List Nat} {F L : Nat → List Int} {kv : Value} {fv : Nat → Value}
theorem Tryz.info22 : (Tryz.prog.info? 22).map (fun i => (i.zero, i.size, i.bytes)) = some (some (.int .u64 0), 1, 8) := by kernel_rfl
def Placed (K : List Nat) (F : Nat → List Int) (key : Nat) (K' : List Nat) (F' : Nat → List Int) : Prop :=
 (key ∈ K ∧ K' = K ∧ F' = F) ∨ (key ∉ K ∧ K' = K ++ [key] ∧ ∀ h, h < 3 → F' h = F h ++ [0])
def PlaceOut (B0 : Nat) (w : World) (bd ag : Nat) (c : Cfg) (K : List Nat) (F : Nat → List Int) (kv : Value) (fv : Nat → Value) (key i : Nat) (w' : World) : Prop :=
 ∃ (K' : List Nat) (F' : Nat → List Int) (kv' : Value) (fv' : Nat → Value), BdRow B0 w' bd ag c K' F' kv' fv' ∧ K'[i]? = some key ∧ Placed K F key K' F' ∧ Upd (bdF bd kv fv) w w' ∧ ∀ b, bdF bd kv' fv' b → bdF bd kv fv b ∨ w.heap.size ≤ b
theorem k64_snoc (K : List Nat) (k : Nat) : k64 (K ++ [k]) = k64 K ++ [.int .u64 (k : Int)] := by simp [k64]
theorem i64s_snoc (K : List Int) (k : Int) : i64s (K ++ [k]) = i64s K ++ [.int .i64 k] := by simp [i64s]
theorem BdR.hd1 (S : BdR B0 w bd ag c K L kv fv) {o : Obj} {row : Option Nat} (hg : (w.alloc o).grownBy w1 row) (hrow : row = kv.ownBlock ∨ ∃ j, j < 3 ∧ row = (fv j).ownBlock) : w1.heap[bd]? = w.heap[bd]? := by
 have lbd := lt_of_block S.hd
 refine (hg.block bd (by simp; omega) (fun e => ?_)).trans (Lib.alloc_old _ _ _ lbd)
 rcases hrow with h | ⟨j, hj, h⟩
 ·obtain ⟨cur, hc⟩ := S.kk (h ▸ e.symm)
  exact kind_ne S.hd hc (by decide) rfl
 ·obtain ⟨cur, hc⟩ := S.fk hj (h ▸ e.symm)
  exact kind_ne S.hd hc (by decide) rfl
theorem PlaceStart (S : BdRow B0 w bd ag c K F kv fv) {key : Nat} (hlo : B0 ≤ bd) {o : Obj} {v' : Value} (hg : (w.alloc o).grownBy w1 kv.ownBlock) (hat : v'.ownBlock = kv.ownBlock ∨ v'.ownBlock = some (w.alloc o).heap.size) (hP : BdR B0 (w1.setCell ⟨bd, 6, none⟩ v') bd ag c (K ++ [key]) F v' fv) :
  ∃ (j : Nat) (fj : Nat → Value), j ≤ 3 ∧ Value.int .i64 0 = .int .i64 (j : Int) ∧ BdR B0 (w1.setCell ⟨bd, 6, none⟩ v') bd ag c (K ++ [key]) (fun g => if g < j then F g ++ [0] else F g) v' fj ∧ Upd (bdF bd kv fv) w (w1.setCell ⟨bd, 6, none⟩ v') ∧ ∀ b, bdF bd v' fj b → bdF bd kv fv b ∨ w.heap.size ≤ b := by
 have hz := hg.size
 simp at hz
 refine ⟨0, fv, by omega, rfl, by simpa using hP, ?_, ?_⟩
 ·refine ⟨hg.os, hg.tape, hg.output, by simp; omega, fun k hk hn => ?_⟩
  refine (heap_setCell_other _ _ _ _ (fun e => hn (.inl e))).trans ((hg.block k (by simp; omega) (fun e => hn (.inr (.inl e.symm)))).trans (Lib.alloc_old _ _ _ hk))
 ·rintro b (h | h | ⟨g, g3, h⟩)
  ·exact .inl (.inl h)
  ·rcases hat with e | e
   ·exact .inl (.inr (.inl (e ▸ h)))
   ·rw [e] at h
    have := Option.some.inj h
    simp at this
    exact .inr (by omega)
  ·exact .inl (.inr (.inr ⟨g, g3, h⟩))
theorem PlaceStep {wr w2 : World} {kv1 : Value} {fj : Nat → Value} {key j : Nat} (S : BdR B0 wr bd ag c (K ++ [key]) (fun g => if g < j then F g ++ [0] else F g) kv1 fj) (hU : Upd (bdF bd kv fv) w wr) (hbk : ∀ b, bdF bd kv1 fj b → bdF bd kv fv b ∨ w.heap.size ≤ b) (hj : j < 3) (hFl : (F j).length = K.length)
  {v0 : Value} (hv0 : fj j = v0) {o : Obj} {v' : Value} (hO : w2.ownsRow B0 2 1 v' (K.length + 1) (i64s (F j) ++ [.int .i64 0])) (hg : (wr.alloc o).drew.grownBy w2 v0.ownBlock) (hat : v'.ownBlock = v0.ownBlock ∨ v'.ownBlock = some (wr.alloc o).drew.heap.size) :
  ∃ fj' : Nat → Value, BdR B0 (w2.setCell ⟨bd, 7 + j, none⟩ v') bd ag c (K ++ [key]) (fun g => if g < j + 1 then F g ++ [0] else F g) kv1 fj' ∧ Upd (bdF bd kv fv) w (w2.setCell ⟨bd, 7 + j, none⟩ v') ∧ ∀ b, bdF bd kv1 fj' b → bdF bd kv fv b ∨ w.heap.size ≤ b := by
 subst hv0
 have hg' : (wr.alloc o).grownBy w2 (fj j).ownBlock := ⟨hg.os, hg.tape, hg.output, hg.size, hg.block⟩
 have hat' : v'.ownBlock = (fj j).ownBlock ∨ v'.ownBlock = some (wr.alloc o).heap.size := hat
 have hP := S.push hj o v' (by simp only [Nat.lt_irrefl, if_false, hFl, i64s_snoc]; exact hO) hg' hat'
 have hz := hU.size
 have hzg := hg'.size
 simp at hzg
 refine ⟨fun g => if g = j then v' else fj g, ?_, ?_, ?_⟩
 ·have e : (fun g => if g < j + 1 then F g ++ [0] else F g) = (fun g => if g = j then (fun g => if g < j then F g ++ [0] else F g) j ++ [0] else (fun g => if g < j then F g ++ [0] else F g) g) := by
   funext g
   by_cases e : g = j
   ·subst e; simp
   ·by_cases h : g < j
    ·simp [e, h, show g < j + 1 by omega]
    ·simp [e, h, show ¬ g < j + 1 by omega]
  rw [e]
  exact hP
 ·refine ⟨hg'.os.trans hU.os, hg'.tape.trans hU.tape, hg'.output.trans hU.output, by simp; omega, fun k hk hn => ?_⟩
  refine (heap_setCell_other _ _ _ _ (fun e => hn (.inl e))).trans ((hg'.block k (by simp; omega) (fun e => ?_)).trans ((Lib.alloc_old _ _ _ (by omega)).trans (hU.block k hk hn)))
  rcases hbk k (.inr (.inr ⟨j, hj, e.symm⟩)) with h | h
  ·exact hn h
  ·omega
 ·rintro b (h | h | ⟨g, g3, h⟩)
  ·exact .inl (.inl h)
  ·exact hbk b (.inr (.inl h))
  ·by_cases e : g = j
   ·simp only [if_pos e] at h
    rcases hat' with e2 | e2
    ·exact hbk b (.inr (.inr ⟨j, hj, e2 ▸ h⟩))
    ·rw [e2] at h
     have := Option.some.inj h
     simp at this
     exact .inr (by omega)
   ·simp only [if_neg e] at h
    exact hbk b (.inr (.inr ⟨g, g3, h⟩))
theorem gplace_any (S : BdRow B0 w bd ag c K F kv fv) (key : Nat) (hk : key < 18446744073709551616) (hn : K.length ≤ 4000) :
  Calls Tryz.prog 71 #[.pointer (some ⟨bd, 0, none⟩), .int .u64 (key : Int)] w fun e w' => ∃ i : Nat, e = .returned (.int .i64 (i : Int)) ∧ PlaceOut B0 w bd ag c K F kv fv key i w' := by
 obtain ⟨i0, hi, hz0, hz1, hz2⟩ := info_parts Tryz.info22
 obtain ⟨i2, ji, jz0, jz1, jz2⟩ := info_parts Tryz.info2
 have q6 := cell_of_heap S.hd 6 _ rfl
 obtain ⟨ko, kc, rfl⟩ := S.kform
 have HS := Lib.hid S
 clear S
 go_enter Tryz.func71, Tryz.ntmps71
 go_wp2_with fail
 go_loop [5] (fun i => ∃ k : Nat, k ≤ K.length ∧ i = .int .i64 (k : Int) ∧ ∀ j, j < k → K.getD j 0 ≠ key) (fun i => K.length - (intOf i).toNat)
 case atStart => exact ⟨0, by omega, rfl, fun j hj => by omega⟩
 case round =>
  obtain ⟨k, hkn, rfl, hne⟩ := hrel
  by_cases hlt : k < K.length
  ·obtain ⟨g, cap, hv, hc⟩ := HS.out.key hlt
   cases hv
   have c0 : decide ((k : Int) < K.length) = true := by simp; omega
   have hget : K[k]? = some (K.getD k 0) := by rw [List.getD_eq_getElem?_getD, List.getElem?_eq_getElem hlt]; rfl
   obtain ⟨x, hx⟩ : ∃ x, K.getD k 0 = x := ⟨_, rfl⟩
   rw [hx] at hc hget
   by_cases he : x = key
   ·have d0 : (((x : Nat) : Int) != (key : Int)) = false := by simp [he]
    have d1 : ((k : Int) == (K.length : Int)) = false := by simp; omega
    have HG := Lib.hid (he ▸ hget)
    have HX := Lib.hid he
    clear hget hx he
    obtain ⟨n, hnn⟩ : ∃ n, K.length = n := ⟨_, rfl⟩
    rw [hnn] at q6 c0 d1 hlt hn
    clear hnn
    go_wp2_with fail
    go_ret
    exact ⟨k, rfl, K, F, _, fv, HS.out, HG.out, .inl ⟨List.mem_of_getElem? HG.out, rfl, rfl⟩, Upd.refl _ _, fun b hb => .inl hb⟩
   ·have d0 : (((x : Nat) : Int) != (key : Int)) = true := by simp; omega
    have HN := Lib.hid (And.intro he (And.intro hx hne))
    have HL := Lib.hid hlt
    clear hget hx he hne
    obtain ⟨n, hnn⟩ : ∃ n, K.length = n := ⟨_, rfl⟩
    rw [hnn] at q6 c0 hlt hn
    clear hnn
    go_wp2_with fail
    go_round
    case rel =>
     obtain ⟨he, hx, hne⟩ := HN.out
     refine ⟨k + 1, HL.out, by simp, fun j hj => ?_⟩
     by_cases e : j = k
     ·subst e; rw [hx]; exact he
     ·exact hne j (by omega)
    case measure => have := HL.out; simp [intOf]; omega
  ·obtain rfl : k = K.length := by omega
   have c0 : decide ((K.length : Int) < K.length) = false := by simp
   have d1 : ((K.length : Int) == (K.length : Int)) = true := by simp
   have hnot : key ∉ K := by
    intro hm
    obtain ⟨j, hj, e⟩ := List.mem_iff_getElem.1 hm
    refine hne j hj ?_
    rw [List.getD_eq_getElem?_getD, List.getElem?_eq_getElem hj]; exact e
   have hO := HS.out.kr
   have HN := Lib.hid hnot
   have lbd := lt_of_block HS.out.hd
   have hlo := HS.out.lo
   clear hne hnot
   go_wp2_with (at_builtin; refine wpList_append_own_at _ rfl (.tmp 38) (.tmp 40) 33 rfl B0 22 i0 (.int .u64 0) 1 8 Tryz.underlying33 hi hz0 hz1 hz2 rfl (by decide) (.slice ko K.length kc) K.length (k64 K) rfl (hO.alloc _) ⟨w.heap.size, 0, none⟩ 1 1 [.int .u64 (key : Int)] rfl rfl (cell_one_new _ _ _) (by intro x hx; simp at hx; subst hx; rfl) (by unfold maxLen; omega) (by omega) (by simp; omega) ?_; intro v1 w1 hown hgrow hnil hat; obtain ⟨o1, c1, rfl⟩ := own_form hown; have hx1 := (HS.out.r.hd1 hgrow (.inl rfl)).trans HS.out.hd; have fz1 : w1.frozen? ⟨bd, 6, none⟩ = false := (by simp [World.frozen?, hx1]); have l1 := lt_of_block hx1; have z6 := cell_of_heap hx1 6 _ rfl; have HP := Lib.hid (HS.out.r.pushK key _ _ ((k64_snoc K key).symm ▸ hown) hgrow hat); have HQ := Lib.hid (And.intro hgrow hat); clear hown hgrow hnil hat hx1)
   go_loopw [6] (fun i wr => ∃ (j : Nat) (fj : Nat → Value), j ≤ 3 ∧ i = .int .i64 (j : Int) ∧ BdR B0 wr bd ag c (K ++ [key]) (fun g => if g < j then F g ++ [0] else F g) (.slice o1 (K.length + 1) c1) fj ∧ Upd (bdF bd (.slice ko K.length kc) fv) w wr ∧ ∀ b, bdF bd (.slice o1 (K.length + 1) c1) fj b → bdF bd (.slice ko K.length kc) fv b ∨ w.heap.size ≤ b) (fun i _ => 3 - (intOf i).toNat)
   case atStart => exact PlaceStart HS.out hlo HQ.out.1 HQ.out.2 HP.out
   case round =>
    obtain ⟨j, fj, hj, rfl, S, hU, hbk⟩ := hrel
    by_cases hj3 : j < 3
    ·have d3 : decide ((j : Int) < 3) = true := by simp; omega
     have hFO := S.fr j hj3
     have hqF := S.cellF hj3
     have hFl := HS.out.fl j hj3
     have HSR := Lib.hid (And.intro S (And.intro hU hbk))
     have lb := lt_of_block S.hd
     clear S hU hbk
     simp only [Nat.lt_irrefl, if_false] at hFO
     rw [hFl] at hFO
     obtain ⟨fo, fc, hfo⟩ := own_form hFO
     rw [hfo] at hFO hqF
     have HFO := Lib.hid hfo
     clear hfo
     go_wp2_with fail
     have hdr : wr.drew.cell? ⟨bd, 7 + j, none⟩ = some (.slice fo K.length fc) := hqF
     refine wp_region_T (fun k X => k = 8 → X.cell? ⟨bd, 7 + j, none⟩ = some (.slice fo K.length fc)) (by kernel_rfl) ?_
     refine wpAnyT_take2 [1, 2, 3, 4, 5, 6, 7, 8, 9, 10, 11, 12, 13] (i := 0) (v := .pointer (some ⟨bd, 0, none⟩)) (S := fun _ => True) rfl (by kernel_rfl) (by kernel_rfl) (by kernel_rfl) (by kernel_rfl) (fun c a w h => (calm_panic _ c _ w h).elim) (fun _ _ _ _ => trivial) (fun _ _ h => by cases h) (.inl ⟨by rfl, fun X hX => by first | (go_simp; done) | (go_simp; intro h; omega)⟩) (trivial) ?_
     refine wpAnyT_take2 [2, 3, 4, 5, 6, 7, 8, 9, 10, 11, 12, 13] (i := 1) (v := .int .i64 (j : Int)) (S := fun _ => True) rfl (by kernel_rfl) (by kernel_rfl) (by kernel_rfl) (by kernel_rfl) (fun c a w h => (calm_panic _ c _ w h).elim) (fun _ _ _ _ => trivial) (fun _ _ h => by cases h) (.inl ⟨by rfl, fun X hX => by first | (go_simp; done) | (go_simp; intro h; omega)⟩) (trivial) ?_
     refine wpAnyT_take2 [3, 4, 5, 6, 7, 8, 9, 10, 11, 12, 13] (i := 2) (v := .pointer (some ⟨bd, 0, none⟩)) (S := fun _ => True) rfl (by kernel_rfl) (by kernel_rfl) (by kernel_rfl) (by kernel_rfl) (fun c a w h => (calm_panic _ c _ w h).elim) (fun _ _ _ _ => trivial) (fun _ _ h => by cases h) (.inl ⟨by rfl, fun X hX => by first | (go_simp; done) | (go_simp; intro h; omega)⟩) (trivial) ?_
     refine wpAnyT_take2 [4, 5, 6, 7, 8, 9, 10, 11, 12, 13] (i := 3) (v := .int .i64 (j : Int)) (S := fun _ => True) rfl (by kernel_rfl) (by kernel_rfl) (by kernel_rfl) (by kernel_rfl) (fun c a w h => (calm_panic _ c _ w h).elim) (fun _ _ _ _ => trivial) (fun _ _ h => by cases h) (.inl ⟨by rfl, fun X hX => by first | (go_simp; done) | (go_simp; intro h; omega)⟩) (trivial) ?_
     refine wpAnyT_take2 [5, 6, 7, 8, 9, 10, 11, 12, 13] (i := 4) (v := .pointer (some ⟨bd, 0, none⟩)) (S := fun _ => True) rfl (by kernel_rfl) (by kernel_rfl) (by kernel_rfl) (by kernel_rfl) (fun c a w h => (calm_panic _ c _ w h).elim) (fun _ _ _ _ => trivial) (fun _ _ h => by cases h) (.inl ⟨by rfl, fun X hX => by first | (go_simp; done) | (go_simp; intro h; omega)⟩) (trivial) ?_
     refine wpAnyT_take2 [6, 7, 8, 9, 10, 11, 12, 13] (i := 5) (v := .pointer (some ⟨bd, 7, none⟩)) (S := fun _ => True) rfl (by kernel_rfl) (by kernel_rfl) (by kernel_rfl) (by kernel_rfl) (fun c a w h => (calm_panic _ c _ w h).elim) (fun _ _ _ _ => trivial) (fun _ _ h => by cases h) (.inl ⟨by rfl, fun X hX => by first | (go_simp; done) | (go_simp; intro h; omega)⟩) (trivial) ?_
     refine wpAnyT_take2 [7, 8, 9, 10, 11, 12, 13] (i := 6) (v := .pointer (some ⟨bd, 7 + j, none⟩)) (S := fun _ => True) rfl (by kernel_rfl) (by kernel_rfl) (by kernel_rfl) (by kernel_rfl) (fun c a w h => (calm_panic _ c _ w h).elim) (fun _ _ _ _ => trivial) (fun _ _ h => by cases h) (.inl ⟨by rfl, fun X hX => by first | (go_simp; done) | (go_simp; intro h; omega)⟩) (trivial) ?_
     refine wpAnyT_take2 [7, 8, 9, 11, 12, 13] (i := 10) (v := .pointer (some ⟨bd, 0, none⟩)) (S := fun _ => True) rfl (by kernel_rfl) (by kernel_rfl) (by kernel_rfl) (by kernel_rfl) (fun c a w h => (calm_panic _ c _ w h).elim) (fun _ _ _ _ => trivial) (fun _ _ h => by cases h) (.inl ⟨by rfl, fun X hX => by first | (go_simp; done) | (go_simp; intro h; omega)⟩) (trivial) ?_
     refine wpAnyT_take2 [7, 8, 9, 12, 13] (i := 11) (v := .pointer (some ⟨bd, 7, none⟩)) (S := fun _ => True) rfl (by kernel_rfl) (by kernel_rfl) (by kernel_rfl) (by kernel_rfl) (fun c a w h => (calm_panic _ c _ w h).elim) (fun _ _ _ _ => trivial) (fun _ _ h => by cases h) (.inl ⟨by rfl, fun X hX => by first | (go_simp; done) | (go_simp; intro h; omega)⟩) (trivial) ?_
     refine wpAnyT_take2 [8] (i := 7) (v := .slice fo K.length fc) (S := fun X => X.cell? ⟨bd, 7 + j, none⟩ = some (.slice fo K.length fc)) rfl (by kernel_rfl) (by kernel_rfl) (by kernel_rfl) (by kernel_rfl) (fun c a w h => (calm_panic _ c _ w h).elim) (fun k hk X h => h (by simpa using hk)) (fun X h _ => h) (.inl ⟨by rfl, fun X hX => by first | (go_simp; done) | (go_simp; intro h; omega)⟩) (hdr) ?_
     refine wpAnyT_one (i := 8) (by kernel_rfl) rfl (fun K2 hK2 => ?_)
     go_simp
     refine hK2.out _ _ (fun _ => heapcell_alloc _ hdr) ?_
     refine wpAnyT_walk [9, 12, 13] _ _ _ (by intro k hk X h; simp at hk; omega) (by kernel_rfl) ?_
     simp only [opsAt, List.map_cons, List.map_nil, List.getElem?_toArray, List.getElem?_cons_zero, List.getElem?_cons_succ, Option.getD_some]
     unfold calmQ
     clear hK2 K2 hdr
     go_wp2_with (at_builtin; refine wpList_append_own_at _ rfl (.tmp 55) (.tmp 56) 34 rfl B0 2 i2 (.int .i64 0) 1 8 Tryz.underlying34 ji jz0 jz1 jz2 rfl (by decide) (.slice fo K.length fc) K.length (i64s (F j)) rfl (hFO.alloc _).drew ⟨wr.heap.size, 0, none⟩ 1 1 [.int .i64 0] rfl rfl (cell_one_new _ _ _) (by intro x hx; simp at hx; subst hx; rfl) (by unfold maxLen; omega) (by omega) (by simp; omega) ?_; intro v2 w2 hown hgrow hnil hat; obtain ⟨o2, c2, rfl⟩ := own_form hown; have hx2 := (HSR.out.1.hd1 (row := Value.ownBlock (.slice fo K.length fc)) ⟨hgrow.os, hgrow.tape, hgrow.output, hgrow.size, hgrow.block⟩ (.inr ⟨j, hj3, by rw [HFO.out]⟩)).trans HSR.out.1.hd; have fz2 : w2.frozen? ⟨bd, 7 + j, none⟩ = false := (by simp [World.frozen?, hx2]); have l2 := lt_of_block hx2; have z7 : ∃ u, w2.cell? ⟨bd, 7 + j, none⟩ = some u := (by rcases j with _ | _ | _ | j <;> first | exact ⟨_, cell_of_heap hx2 7 _ rfl⟩ | exact ⟨_, cell_of_heap hx2 8 _ rfl⟩ | exact ⟨_, cell_of_heap hx2 9 _ rfl⟩ | omega); obtain ⟨u7, z7⟩ := z7; have HP2 := Lib.hid (PlaceStep HSR.out.1 HSR.out.2.1 HSR.out.2.2 hj3 hFl HFO.out hown hgrow hat); clear hown hgrow hnil hat hx2)
     obtain ⟨fj', P1, P2, P3⟩ := HP2.out
     refine ⟨⟨j + 1, fj', by omega, by simp, P1, P2, P3⟩, ?_⟩
     simp [intOf]; omega
    ·obtain rfl : j = 3 := by omega
     have d3 : decide (((3 : Nat) : Int) < 3) = false := by decide
     have e : (fun g => if g < 3 then F g ++ [0] else F g) = (fun g => if g < 3 then F g ++ [0] else F g) := rfl
     have HR := Lib.hid (show PlaceOut B0 w bd ag c K F (.slice ko K.length kc) fv key K.length wr from
      ⟨K ++ [key], _, _, fj, S.row (fun h h3 => by simp [h3, HS.out.fl h h3]), by simp, .inr ⟨HN.out, rfl, fun h h3 => by simp [h3]⟩, hU, hbk⟩)
     clear S hU hbk e
     go_wp2_with fail
     go_ret
     exact ⟨K.length, rfl, HR.out⟩
end Go.Proofs.YtbhppbeepmllaaaGreatDoor

namespace Go.Proofs.YtbhppbeepmllaaaGreatDoor
open Go.RowKit Go.Shelf
attribute [local go_sem] Oper.semAt_some

def nlJ : List (List UInt8) → List UInt8
 | [] => []
 | [x] => x
 | x :: y :: r => x ++ 10 :: nlJ (y :: r)
theorem nlJ_cons (x : List UInt8) {r : List (List UInt8)} (h : r ≠ []) : nlJ (x :: r) = x ++ 10 :: nlJ r := by
 cases r with
 | nil => exact absurd rfl h
 | cons y r => rfl
theorem index_none : ∀ (x : List UInt8), (∀ b ∈ x, b ≠ 10) → Lib.indexByte x 10 = -1
 | [], _ => rfl
 | b :: x, h => by
  have ih := index_none x (fun y hy => h y (by simp [hy]))
  have hb : (b == 10) = false := by simpa using h b (by simp)
  simp [Lib.indexByte, hb, ih]
theorem index_at (r : List UInt8) : ∀ (x : List UInt8), (∀ b ∈ x, b ≠ 10) → Lib.indexByte (x ++ 10 :: r) 10 = x.length
 | [], _ => by simp [Lib.indexByte]
 | b :: x, h => by
  have ih := index_at r x (fun y hy => h y (by simp [hy]))
  have hb : (b == 10) = false := by simpa using h b (by simp)
  simp only [List.cons_append, Lib.indexByte, hb, ih, Bool.false_eq_true, if_false, List.length_cons]
  have : (((x.length : Int)) == -1) = false := by simp
  rw [this]
  simp
theorem sOf_take (x r : List UInt8) : (sOf (x ++ r)).extract 0 x.length = sOf x := by
 apply ByteArray.ext
 apply Array.ext'
 simp [sOf]
theorem sOf_drop (x r : List UInt8) (b : UInt8) : (sOf (x ++ b :: r)).extract (x.length + 1) (sOf (x ++ b :: r)).size = sOf r := by
 apply ByteArray.ext
 apply Array.ext'
 simp [sOf, ByteArray.size]
 rw [List.take_of_length_le (by omega)]
def bLen (bs : Nat) (w : World) : Nat := match w.cell? ⟨bs, 0, none⟩ with
 | some (.string s) => s.size
 | _ => 0
theorem bLen_of {bs : Nat} {w : World} {l : List UInt8} (h : w.heap[bs]? = some (.cells #[.string (sOf l)] 9 (0, 0))) : bLen bs w = l.length := by
 unfold bLen
 rw [cell_of_heap h 0 _ rfl]
 exact sOf_size l
def lnEnc (x : List UInt8) : Array Value := #[.string (sOf x)]
theorem split_in (l bs bp bv : Nat) (ls : List (List UInt8)) (hne : ls ≠ []) (hx : ls.length ≤ 1000000) (h10 : ∀ x ∈ ls, ∀ b ∈ x, b ≠ 10) (hsz : (nlJ ls).length ≤ 1000000) (Fr : Nat → Prop) (J Jx : List (List UInt8) → World → Prop)
  (hFs : ¬ Fr bs) (hFp : ¬ Fr bp) (hFv : ¬ Fr bv) (d1 : bs ≠ bp) (d2 : bs ≠ bv) (W : World) (hJ : AbidesFrom W.heap.size J) (hJb : ∀ s A v, J s A → J s (A.setCell ⟨bs, 0, none⟩ v))
  (hY : ∀ pre x W, J pre W → (pre ++ [x]) <+: ls → YieldAt Fence.wide 3 Tryz.prog l (lnEnc x) W fun e W' =>
   (e = .returned (.bool true) ∧ J (pre ++ [x]) W' ∧ Upd Fr W W') ∨ (e = .returned (.bool false) ∧ Jx (pre ++ [x]) W'))
  (hs : W.heap[bs]? = some (.cells #[.string (sOf (nlJ ls))] 9 (0, 0))) (hp : W.heap[bp]? = some (.cells #[.string ⟨#[10]⟩] 9 (0, 0))) (hv : W.heap[bv]? = some (.cells #[.int .i64 0] 3 (0, 0))) (h0 : J [] W) :
  CallsIn Fence.wide 4 Tryz.prog 141 #[.func (.yield l) #[] #[], .pointer (some ⟨bp, 0, none⟩), .pointer (some ⟨bs, 0, none⟩), .pointer (some ⟨bv, 0, none⟩)] W fun e W' => (∃ v, e = .returned v) ∧
   ((∃ ys, ys = ls ∧ J ys W') ∨ (∃ pre, pre <+: ls ∧ Jx pre W')) := by
 have q1 : W.cell? ⟨bp, 0, none⟩ = some (.string ⟨#[10]⟩) := cell_of_heap hp 0 _ rfl
 refine callsIn_of_wp Tryz.func141 rfl trivial ?_ rfl
 simp only [Tryz.ntmps141, List.size_toArray, List.length_cons, List.length_nil, Nat.reduceAdd, Nat.reduceSub, Array.replicate_succ, Array.replicate_zero, List.push_toArray, List.append_toArray, List.nil_append, List.cons_append]
 gi_wp2
 have hlp : 0 < ls.length := List.length_pos_iff.2 hne
 gi_loopw [] (fun wr => ∃ k : Nat, k < ls.length ∧ J (ls.take k) wr ∧ wr.heap[bs]? = some (.cells #[.string (sOf (nlJ (ls.drop k)))] 9 (0, 0)) ∧ wr.heap[bp]? = some (.cells #[.string ⟨#[10]⟩] 9 (0, 0)) ∧ wr.heap[bv]? = some (.cells #[.int .i64 0] 3 (0, 0)) ∧ (nlJ (ls.drop k)).length ≤ 1000000) (fun wr => bLen bs wr)
 case atStart => exact ⟨0, hlp, by simpa using h0, by simpa using hs, hp, hv, by simpa using hsz⟩
 case round =>
  obtain ⟨k, hk, hJk, hsk, hpk, hvk, hzk⟩ := hrel
  obtain ⟨x, hxk⟩ : ∃ x, ls[k]? = some x := ⟨_, List.getElem?_eq_getElem hk⟩
  have hmem := h10 x (List.mem_of_getElem? hxk)
  have hts : ls.take (k + 1) = ls.take k ++ [x] := by rw [List.take_add_one, hxk]; rfl
  have hds : ls.drop k = x :: ls.drop (k + 1) := by
   rw [List.drop_eq_getElem_cons hk]
   congr 1
   rw [List.getElem?_eq_getElem hk] at hxk
   exact Option.some.inj hxk
  have p0 := cell_of_heap hsk 0 _ rfl
  have p1 := cell_of_heap hpk 0 _ rfl
  have p2 := cell_of_heap hvk 0 _ rfl
  have HI := Lib.hid fun w => Tryz.strings_Index_one (sOf (nlJ (ls.drop k))) 10 w
  have HT := Lib.hid hts
  have ls1 := lt_of_block hsk
  by_cases hlast : k + 1 < ls.length
  ·have hdne : ls.drop (k + 1) ≠ [] := by simp; omega
   rw [hds, nlJ_cons x hdne] at hzk p0 hsk HI
   simp only [sOf_list, index_at _ _ hmem] at HI
   obtain ⟨fn, tmps, assign, body, hy, hR⟩ := hY _ x wr hJk (by rw [← hts]; exact List.take_prefix _ _)
   unfold lnEnc at hy
   obtain ⟨S, hS⟩ : ∃ S, sOf (x ++ 10 :: nlJ (ls.drop (k + 1))) = S := ⟨_, rfl⟩
   have hSn : S.size = x.length + ((nlJ (ls.drop (k + 1))).length + 1) := by rw [← hS, sOf_size, List.length_append, List.length_cons]
   have e0 : S.extract 0 x.length = sOf x := by rw [← hS]; exact sOf_take _ _
   have e1 : S.extract (x.length + 1) S.size = sOf (nlJ (ls.drop (k + 1))) := by rw [← hS]; exact sOf_drop _ _ _
   rw [hSn] at e1
   have hbl := bLen_of hsk
   rw [hS] at p0 HI hsk
   have HS := Lib.hid (And.intro hsk (And.intro hpk (And.intro hvk (And.intro hzk hbl))))
   have hzx : x.length ≤ 1000000 := by rw [List.length_append] at hzk; omega
   clear hS hsk hpk hvk hbl
   gi_wp2_with fail
   refine ⟨trivial, (callsIn_wide.2 (HI.out _)).mono ?_⟩
   rintro e w1 ⟨rfl, rfl⟩
   gi_wp2_with fail
   refine hR.mono ?_
   rintro e W3 (⟨rfl, hJ3, hk3⟩ | ⟨rfl, hJx3⟩)
   ·obtain ⟨hsk, hpk, hvk, hzk, hbl⟩ := HS.out
    have hs3 := (hk3.block bs ls1 hFs).trans hsk
    have hp3 := (hk3.block bp (lt_of_block hpk) hFp).trans hpk
    have hv3 := (hk3.block bv (lt_of_block hvk) hFv).trans hvk
    have r0 := cell_of_heap hs3 0 _ rfl
    have r1 := cell_of_heap hp3 0 _ rfl
    have rf : W3.frozen? ⟨bs, 0, none⟩ = false := by simp [World.frozen?, hs3]
    have HV := Lib.hid (And.intro hs3 (And.intro hp3 (And.intro hv3 (And.intro hbl hzk))))
    have rl := lt_of_block hs3
    clear hsk hpk hvk hzk hbl hs3 hp3 hv3 HS
    gi_wp2_with fail
    go_roundw
    case rel =>
     refine ⟨k + 1, hlast, ?_, one_setCell HV.out.1, (heap_setCell_other _ _ _ _ (by dsimp only; exact d1.symm)).trans HV.out.2.1, (heap_setCell_other _ _ _ _ (by dsimp only; exact d2.symm)).trans HV.out.2.2.1, ?_⟩
     ·rw [HT.out]; exact hJb _ _ _ hJ3
     ·have := HV.out.2.2.2.2
      rw [List.length_append, List.length_cons] at this; omega
    case measure =>
     rw [bLen_of (one_setCell HV.out.1), HV.out.2.2.2.1, List.length_append, List.length_cons]; omega
   ·gi_wp2_with fail
    refine bodyPost_ret (results_none rfl _ _ _) rfl ?_
    exact ⟨⟨_, rfl⟩, .inr ⟨_, by rw [← HT.out]; exact List.take_prefix _ _, hJx3⟩⟩
  ·have hk1 : k + 1 = ls.length := by omega
   rw [hds, hk1, List.drop_length] at p0 hsk HI
   simp only [nlJ] at p0 hsk HI
   simp only [sOf_list, index_none _ hmem] at HI
   obtain ⟨fn, tmps, assign, body, hy, hR⟩ := hY _ x wr hJk (by rw [← hts]; exact List.take_prefix _ _)
   unfold lnEnc at hy
   clear hsk hpk hvk hzk
   gi_wp2_with fail
   refine ⟨trivial, (callsIn_wide.2 (HI.out _)).mono ?_⟩
   rintro e w1 ⟨rfl, rfl⟩
   gi_wp2_with fail
   refine hR.mono ?_
   rintro e W3 (⟨rfl, hJ3, hk3⟩ | ⟨rfl, hJx3⟩)
   ·gi_wp2_with fail
    go_end0
    exact ⟨⟨_, rfl⟩, .inl ⟨_, by rw [← HT.out, hk1, List.take_length], hJ3⟩⟩
   ·gi_wp2_with fail
    go_end0
    exact ⟨⟨_, rfl⟩, .inr ⟨_, by rw [← HT.out]; exact List.take_prefix _ _, hJx3⟩⟩
end Go.Proofs.YtbhppbeepmllaaaGreatDoor
