import Derived.Test.YtbhppbeepmllaaaGreatDoorMcf3fd1f5
import Derived.Test.YtbhppbeepmllaaaGreatDoorWQA237f631b
set_option linter.unusedVariables false
set_option linter.unusedSimpArgs false
set_option maxRecDepth 100000
set_option maxHeartbeats 2000000
namespace Go.Proofs.YtbhppbeepmllaaaGreatDoor
open Go.RowKit

theorem preL_le (c : Cfg) (level : Nat) : preL c level ≤ c.b := by have := Nat.mod_lt level (show 0 < c.b + 1 by omega); unfold preL; omega
theorem preK_lt (c : Cfg) {K : List Nat} (hK : ∀ k ∈ K, k < c.keys 0) (index near : Nat) : preK c K index near < c.keys 0 := by
 unfold preK
 split
 ·rename_i h
  have hi : index % K.length < K.length := Nat.mod_lt _ h.2
  rw [List.getD_eq_getElem?_getD, List.getElem?_eq_getElem hi]
  exact hK _ (List.getElem_mem hi)
 ·exact Nat.mod_lt _ Nat.one_le_two_pow
theorem AbOk.told_bd {c : Cfg} {M : Int} {N : Nat} {K : List Nat} {F : Nat → List Int} {cs : Nat → Nat → List Int} (A : AbOk c M N K F cs) (hM : 0 ≤ M) {h : Nat} (h3 : h < 3) (l i : Nat) (hl : l ≤ c.b) : -M ≤ c.lvTold l i (cs (h + 1) l) ∧ c.lvTold l i (cs (h + 1) l) ≤ M :=
 told_bdG hM (A.cb h h3 l hl) l i
theorem mass_bd {F : List Int} (hF : ∀ x ∈ F, -35184372088832 ≤ x ∧ x ≤ 35184372088832) (hl : F.length ≤ 25) (K : List Nat) (l p : Nat) : -1125899906842624 ≤ massI l p K F ∧ massI l p K F ≤ 1125899906842624 := by
 have := sumIf_bd (fun k => k / 2 ^ l == p) 35184372088832 (by decide) K F hF
 unfold massI
 omega
def nearN (far : Int) (L : List Int) : Nat := (L.filter fun y => decide (-far ≤ y) && decide (y ≤ far)).length
theorem near_snoc (far : Int) (L : List Int) (k : Nat) (hk : k < L.length) : nearN far (L.take (k + 1)) = nearN far (L.take k) + if (decide (-far ≤ L.getD k 0) && decide (L.getD k 0 ≤ far)) = true then 1 else 0 := by
 unfold nearN
 rw [List.take_succ_eq_append_getElem hk, List.filter_append, List.length_append]
 have e : L.getD k 0 = L[k] := by rw [List.getD_eq_getElem?_getD, List.getElem?_eq_getElem hk]; rfl
 rw [e, List.filter_cons, List.filter_nil]
 split <;> simp
theorem near_le (far : Int) (L : List Int) : nearN far L ≤ L.length := List.length_filter_le _ _
end Go.Proofs.YtbhppbeepmllaaaGreatDoor
