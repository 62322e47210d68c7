import Derived.Test.YtbhppbeepmllaaaGreatDoorMcf3fd1f5
import Derived.Test.YtbhppbeepmllaaaGreatDoorMdb9ab3e7
set_option linter.unusedVariables false
set_option linter.unusedSimpArgs false
set_option maxRecDepth 100000
set_option maxHeartbeats 2000000
namespace Go.Proofs.YtbhppbeepmllaaaGreatDoor
open Go.RowKit

theorem told_bdG {c : Cfg} {M : Int} (hM : 0 ≤ M) {cells : List Int} (h : Bd M cells) (l i : Nat) : -M ≤ c.lvTold l i cells ∧ c.lvTold l i cells ≤ M := by
 unfold Cfg.lvTold Cfg.told
 split
 ·exact h.getD hM _
 ·exact (h.readL hM _ _ _).kthI hM _
theorem act_ok {c : Cfg} (R : c.Ok) {cs : Nat → Nat → List Int} (hz : ∀ h, h < 3 → cs (h + 1) = zeroC c) (l : List Opr) : AbOk c 35184372088832 25 (runS c ⟨[], fun _ => [], cs⟩ (l.take 25)).K (runS c ⟨[], fun _ => [], cs⟩ (l.take 25)).F (runS c ⟨[], fun _ => [], cs⟩ (l.take 25)).cs := by
 have h := runS_ok R hz (l.take 25) (l.take 25).length (Nat.le_refl _)
 rw [List.take_length] at h
 have hl : (l.take 25).length ≤ 25 := by rw [List.length_take]; omega
 refine h.mono ?_ hl
 have h1 : 2 ^ (l.take 25).length ≤ 2 ^ 25 := Nat.pow_le_pow_right (by decide) hl
 have h2 : ((2 ^ (l.take 25).length : Nat) : Int) = 2 ^ (l.take 25).length := by simp
 omega
theorem Cfg.Ok.right1 {c : Cfg} (R : c.Ok) : rightP c.b c.r c.wd 1 := ⟨R.right.1, R.right.2.1, R.right.2.2.1, .inl rfl⟩
theorem OpsAt.mono {w : World} {B B' : Nat} {v : Value} {l : List Opr} (h : OpsAt w B v l) (hB : B ≤ B') : OpsAt w B' v l := by
 obtain ⟨so, cap, hv, H⟩ := h
 refine ⟨so, cap, hv, fun i p hi => ?_⟩
 obtain ⟨hp, b, o, h1, h2, h3⟩ := H i p hi
 exact ⟨hp, b, o, h1, by omega, h3⟩
variable {c : Cfg} {M : Int} {N : Nat} {K : List Nat} {F : Nat → List Int} {cs : Nat → Nat → List Int}
theorem AbOk.mid (A : AbOk c M N K F cs) (hM : M ≤ 1125899906842624) (hN : N ≤ 4096) {h : Nat} (h3 : h < 3) : Mid (F h) := by
 refine ⟨by rw [A.len h h3]; exact Nat.le_trans A.few hN, fun x hx => ?_⟩
 have := A.fb h h3 x hx
 omega
theorem Cfg.top_keys (c : Cfg) : c.keys c.b = 1 := by unfold Cfg.keys; simp
theorem AbOk.total (A : AbOk c M N K F cs) (R : c.Ok) {h : Nat} (h3 : h < 3) : (cs (h + 1) c.b).getD 0 0 = massI c.b 0 K (F h) := by
 have hk := c.top_keys
 have hw := R.w1
 by_cases hm : c.m = 2
 ·exact (A.cons hm h h3).1.exact_ c.b (Nat.le_refl _) (by omega) 0 (by omega)
 ·exact lin_exact (A.lin hm h h3) c.b 0 (Nat.le_refl _) (by omega) (by omega)
theorem AbOk.consP (A : AbOk c M N K F cs) (R : c.Ok) {h : Nat} (h3 : h < 3) (hp : ∀ x ∈ F h, 0 ≤ x) : ConsOk c (cs (h + 1)) K (F h) := by
 by_cases hm : c.m = 2
 ·exact (A.cons hm h h3).1
 ·exact (A.lin hm h h3).cons R A.keys hp
theorem AbOk.low (A : AbOk c M N K F cs) (R : c.Ok) (hm : c.m = 1 ∨ c.m = 2) {h : Nat} (h3 : h < 3) (hp : ∀ x ∈ F h, 0 ≤ x) (l i : Nat) (hl : l ≤ c.b) (hi : i < c.keys l) : massI l i K (F h) ≤ c.lvTold l i (cs (h + 1) l) :=
 (A.consP R h3 hp).told R (by omega) l i hl hi
theorem over_bd (told : Nat → Nat → Int) (K : List Nat) (F : List Int) (b : Nat) (D : Int) (hD : 0 ≤ D) (hm : ∀ l i, l ≤ b → i < 2 ^ (b - l) → massI l i K F ≤ told l i ∧ told l i - massI l i K F ≤ D) : ∀ (L r : Nat), L ≤ b → r < 2 ^ b → 0 ≤ overI told K F L r ∧ overI told K F L r ≤ D * L
 | 0, r, _, _ => by simp [overI]
 | L + 1, r, hL, hr => by
  have ih := over_bd told K F b D hD hm L r (by omega) hr
  have hi : r / 2 ^ (L + 1) * 2 < 2 ^ (b - L) := by
   have h1 : r / 2 ^ (L + 1) < 2 ^ (b - (L + 1)) := by
    apply Nat.div_lt_of_lt_mul
    rw [← Nat.pow_add, show L + 1 + (b - (L + 1)) = b by omega]; exact hr
   rw [show b - L = (b - (L + 1)) + 1 by omega, Nat.pow_succ (n := 2) (m := b - (L + 1))]
   obtain ⟨q, hq⟩ : ∃ q, r / 2 ^ (L + 1) = q := ⟨_, rfl⟩
   rw [hq] at h1 ⊢
   omega
  have hx := hm L (r / 2 ^ (L + 1) * 2) (by omega) hi
  simp only [overI]
  rw [show ((L + 1 : Nat) : Int) = (L : Int) + 1 by omega, Int.mul_add]
  omega
theorem AbOk.quant (A : AbOk c M N K F cs) (R : c.Ok) (hm : c.m = 1 ∨ c.m = 2) {h : Nat} (h3 : h < 3) (hp : ∀ x ∈ F h, 0 ≤ x) {k : Int} (h1 : 1 ≤ k) (h2 : k ≤ massI c.b 0 K (F h)) :
  wayI (fun l i => c.lvTold l i (cs (h + 1) l)) c.b 0 k < 2 ^ c.b ∧ lessS (wayI (fun l i => c.lvTold l i (cs (h + 1) l)) c.b 0 k) K (F h) < k ∧ k ≤ lessS (wayI (fun l i => c.lvTold l i (cs (h + 1) l)) c.b 0 k + 1) K (F h) + overI (fun l i => c.lvTold l i (cs (h + 1) l)) K (F h) c.b (wayI (fun l i => c.lvTold l i (cs (h + 1) l)) c.b 0 k) :=
 quant_law _ K (F h) c.b k (fun l i hl hi => A.low R hm h3 hp l i hl hi) h1 h2
end Go.Proofs.YtbhppbeepmllaaaGreatDoor
