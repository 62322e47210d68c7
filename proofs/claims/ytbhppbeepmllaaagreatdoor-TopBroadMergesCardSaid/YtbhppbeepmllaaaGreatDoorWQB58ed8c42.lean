import Derived.Test.YtbhppbeepmllaaaGreatDoorWQAca5ecdff
set_option linter.unusedVariables false
set_option linter.unusedSimpArgs false
set_option maxRecDepth 100000
set_option maxHeartbeats 2000000
namespace Go.Proofs.YtbhppbeepmllaaaGreatDoor
open Go.RowKit

def Cfg.lin (c : Cfg) : Cfg := { c with m := 1 }
theorem Cfg.Ok.lin {c : Cfg} (R : c.Ok) : c.lin.Ok := ⟨R.b1, R.b2, R.r1, R.r2, R.w1, R.w2, by show 1 ≤ 1; decide, by show 1 ≤ 3; decide, R.s2⟩
def cutOp (p : Opr) : Opr := if p.kind = 3 then p else { p with D := smallI 2 p.D }
theorem small_cut (d : Int) : smallI 1 (smallI 2 d) = smallI 2 d := by
 have h := small_bd 2 d
 obtain ⟨t, ht⟩ : ∃ t, smallI 2 d = t := ⟨_, rfl⟩
 rw [ht] at h ⊢
 have := h.2.2 rfl
 unfold smallI
 rw [if_neg (by decide)]
 exact Int.tmod_eq_of_lt this h.2.1
noncomputable def stepV (c : Cfg) (s : Sta) (p : Opr) : Sta := if p.kind = 4 then s else stepS c.lin s (cutOp p)
structure Sim (c : Cfg) (s t : Sta) : Prop where
 k : s.K = t.K
 f : s.F = t.F
 le : ∀ h, h < 3 → StLe c (s.cs (h + 1)) (t.cs (h + 1))
theorem AbOk.clen {c : Cfg} {M : Int} {N : Nat} {K : List Nat} {F : Nat → List Int} {cs : Nat → Nat → List Int} (A : AbOk c M N K F cs) {h : Nat} (h3 : h < 3) : ∀ l, l ≤ c.b → (cs (h + 1) l).length = c.size l := by
 intro l hl
 by_cases hm : c.m = 2
 ·exact (A.cons hm h h3).1.len l hl
 ·exact (A.lin hm h h3 l hl).1
theorem Sim.step {c : Cfg} (R : c.Ok) (hm : c.m = 2) {s t : Sta} {M : Int} {N : Nat} {M' : Int} {N' : Nat} (A : AbOk c M N s.K s.F s.cs) (B : AbOk c.lin M' N' t.K t.F t.cs) (S : Sim c s t) (p : Opr) : Sim c (stepS c s p) (stepV c t p) := by
 have h1 := handN_lt p.H
 have h2 := handN_lt p.O
 have hk : c.lin.keys 0 = c.keys 0 := rfl
 have eb : c.lin.b = c.b := rfl
 have em : c.lin.m = 1 := rfl
 obtain ⟨Ks, Fs, css⟩ := s
 obtain ⟨Kt, Ft, cst⟩ := t
 obtain ⟨e1, e2, hle⟩ := S
 dsimp only at e1 e2 hle
 subst e1; subst e2
 unfold stepV
 by_cases h4 : p.kind = 4
 ·rw [if_pos h4]
  unfold stepS
  rw [if_neg (show ¬ p.kind = 3 by omega), if_pos h4, if_pos hm]
  exact ⟨rfl, rfl, hle⟩
 ·rw [if_neg h4]
  by_cases h3 : p.kind = 3
  ·have ec : cutOp p = p := by unfold cutOp; rw [if_pos h3]
   rw [ec]
   unfold stepS
   rw [if_pos h3, if_pos h3]
   refine ⟨rfl, rfl, fun h hh => ?_⟩
   simp only [pairC]
   by_cases e : h = handN p.H
   ·subst e
    simp only [if_true]
    exact (hle _ h1).add (hle _ h2) c.lin rfl (A.clen h1) (A.clen h2) (B.clen h1) (B.clen h2)
   ·simp only [if_neg (show ¬ h + 1 = handN p.H + 1 by omega)]
    exact hle h hh
  ·have ec : cutOp p = { p with D := smallI 2 p.D } := by unfold cutOp; rw [if_neg h3]
   rw [ec]
   unfold stepS
   rw [if_neg h3, if_neg h4, if_neg h3, if_neg h4]
   simp only [em, hm, hk, small_cut]
   refine ⟨rfl, rfl, fun h hh => ?_⟩
   simp only [addC]
   by_cases e : h = handN p.H
   ·subst e
    simp only [if_true]
    exact (hle _ h1).fed c.lin rfl rfl rfl rfl (by rw [em]; decide) R hm (A.clen h1) (B.clen h1) _ _ ((small_bd 2 p.D).2.2 rfl)
   ·simp only [if_neg (show ¬ h + 1 = handN p.H + 1 by omega)]
    exact hle h hh
end Go.Proofs.YtbhppbeepmllaaaGreatDoor
