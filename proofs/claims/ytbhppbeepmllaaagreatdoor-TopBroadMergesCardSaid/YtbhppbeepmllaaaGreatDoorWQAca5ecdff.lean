import Derived.Test.YtbhppbeepmllaaaGreatDoorMd532c772
import Derived.Test.YtbhppbeepmllaaaGreatDoorMdb9ab3e7
set_option linter.unusedVariables false
set_option linter.unusedSimpArgs false
set_option maxRecDepth 100000
set_option maxHeartbeats 2000000
namespace Go.Proofs.YtbhppbeepmllaaaGreatDoor
open Go.RowKit

theorem act_ok {c : Cfg} (R : c.Ok) {cs : Nat → Nat → List Int} (hz : ∀ h, h < 3 → cs (h + 1) = zeroC c) (l : List Opr) : AbOk c 35184372088832 25 (runS c ⟨[], fun _ => [], cs⟩ (l.take 25)).K (runS c ⟨[], fun _ => [], cs⟩ (l.take 25)).F (runS c ⟨[], fun _ => [], cs⟩ (l.take 25)).cs := by
 have h := runS_ok R hz (l.take 25) (l.take 25).length (Nat.le_refl _)
 rw [List.take_length] at h
 have hl : (l.take 25).length ≤ 25 := by rw [List.length_take]; omega
 refine h.mono ?_ hl
 have h1 : 2 ^ (l.take 25).length ≤ 2 ^ 25 := Nat.pow_le_pow_right (by decide) hl
 have h2 : ((2 ^ (l.take 25).length : Nat) : Int) = 2 ^ (l.take 25).length := by simp
 omega
theorem Cfg.Ok.right1 {c : Cfg} (R : c.Ok) : rightP c.b c.r c.wd 1 := ⟨R.right.1, R.right.2.1, R.right.2.2.1, .inl rfl⟩
theorem OpsAt.mono {w : World} {B B' : Nat} {v : Value} {l : List Opr} (h : OpsAt w B v l) (hB : B ≤ B') : OpsAt w B' v l := by
 obtain ⟨so, cap, hv, H⟩ := h
 refine ⟨so, cap, hv, fun i p hi => ?_⟩
 obtain ⟨hp, b, o, h1, h2, h3⟩ := H i p hi
 exact ⟨hp, b, o, h1, by omega, h3⟩
variable {c : Cfg} {M : Int} {N : Nat} {K : List Nat} {F : Nat → List Int} {cs : Nat → Nat → List Int}
theorem Cfg.top_keys (c : Cfg) : c.keys c.b = 1 := by unfold Cfg.keys; simp
theorem AbOk.total (A : AbOk c M N K F cs) (R : c.Ok) {h : Nat} (h3 : h < 3) : (cs (h + 1) c.b).getD 0 0 = massI c.b 0 K (F h) := by
 have hk := c.top_keys
 have hw := R.w1
 by_cases hm : c.m = 2
 ·exact (A.cons hm h h3).1.exact_ c.b (Nat.le_refl _) (by omega) 0 (by omega)
 ·exact lin_exact (A.lin hm h h3) c.b 0 (Nat.le_refl _) (by omega) (by omega)
theorem AbOk.consP (A : AbOk c M N K F cs) (R : c.Ok) {h : Nat} (h3 : h < 3) (hp : ∀ x ∈ F h, 0 ≤ x) : ConsOk c (cs (h + 1)) K (F h) := by
 by_cases hm : c.m = 2
 ·exact (A.cons hm h h3).1
 ·exact (A.lin hm h h3).cons R A.keys hp
theorem AbOk.low (A : AbOk c M N K F cs) (R : c.Ok) (hm : c.m = 1 ∨ c.m = 2) {h : Nat} (h3 : h < 3) (hp : ∀ x ∈ F h, 0 ≤ x) (l i : Nat) (hl : l ≤ c.b) (hi : i < c.keys l) : massI l i K (F h) ≤ c.lvTold l i (cs (h + 1) l) :=
 (A.consP R h3 hp).told R (by omega) l i hl hi
end Go.Proofs.YtbhppbeepmllaaaGreatDoor
