import Derived.Test.YtbhppbeepmllaaaGreatDoorM53ffddcf
import Derived.OrdersIn
import Derived.RangeFuncCalls
import Derived.OwnWalkIn
set_option linter.unusedVariables false
set_option linter.unusedSimpArgs false
namespace Go.Proofs.YtbhppbeepmllaaaGreatDoor
open Go.RowKit
variable {P : Program}

theorem upon_round {l n : Nat} {o : Oper} {a : Act} {K : Act → World → Prop} {Q : Exit → Act → World → Prop} {r : Result Next} (h : o.upon P a K (calmQ Q) r) : o.uponIn (Fence.wide.inRound l) n P a K (calmQ Q) r := by
 cases r with
 | ok x w' =>
  cases x
  case value => exact h
  case skip => exact h
  case defer => exact h
  case enter f args => exact ⟨fun h => by simp [Fence.wide] at h, CallsIn.inRound l (callsIn_wide.2 h)⟩
  case row row args => exact ⟨fun h => by simp [Fence.wide] at h, fun c cs _ => let ⟨v, w', r, s⟩ := h c cs; ⟨v, w', r, (stepsIn_wide (P := P)).2 s⟩⟩
  all_goals exact absurd h (fun h => h)
 | halt x w' =>
  cases x
  case panic v => exact h
  all_goals exact absurd h (fun h => h)
def noDefers (ops : Array Oper) : Bool := ops.toList.all fun o => match o.op with | .defer _ => false | _ => true
theorem noDefers_spec {ops : Array Oper} (h : noDefers ops = true) {i : Nat} {o : Oper} (hi : ops[i]? = some o) : ∀ c, o.op ≠ .defer c := by
 intro c e
 unfold noDefers at h
 rw [List.all_eq_true] at h
 have := h o (by
  have := Array.mem_of_getElem? hi
  exact Array.mem_toList_iff.2 this)
 rw [e] at this
 simp at this
theorem wpOp_round {ops : Array Oper} {Q : Exit → Act → World → Prop} {l n i : Nat} {K : Act → World → Prop} {a : Act} {w : World} (hd : noDefers ops = true) (h : wpOp P ops (calmQ Q) i K a w) : wpOpIn (Fence.wide.inRound l) n P ops (calmQ Q) i K a w := by
 unfold wpOp at h
 unfold wpOpIn
 split at h
 ·rename_i hi; rw [hi]; exact h
 ·rename_i o hi
  rw [hi]
  dsimp only
  split
  ·rename_i hw
   rw [if_pos hw] at h
   rcases h with h | ⟨_, h⟩
   ·unfold Oper.wp at h
    unfold Oper.wpIn
    rw [Oper.semAt_plain (Fence.wide.inRound l) a.eval o (noDefers_spec hd hi)]
    exact ⟨fun _ _ => trivial, upon_round h⟩
   ·exact absurd h (calm_lets Q)
  ·rename_i hw
   rw [if_neg hw] at h
   exact ⟨fun _ _ => trivial, h⟩
theorem wpAny_round {md : Region.Mode} {ops : Array Oper} {Q : Exit → Act → World → Prop} {l n : Nat} (hd : noDefers ops = true) : ∀ (g : Nat) (listed : Array Bool) (a : Act) (w : World), wpAny P md ops (calmQ Q) g listed a w → wpAnyIn (Fence.wide.inRound l) n P md ops (calmQ Q) g listed a w
 | 0, listed, a, w, h => h
 | g + 1, listed, a, w, h => ⟨h.1, fun i hi => wpOpIn_mono (fun a w h => wpAny_round hd g _ a w h) (wpOp_round hd (h.2 i hi))⟩
variable {ops : Array Oper} {C : World → Prop}
theorem wpIn_region_mix {id n l' : Nat} {Q : Exit → Act → World → Prop} {a : Act} {w : World} {l : List Oper} (l1 l2 : List Nat) (hm : P.follows .mixedOrders = true) (hB : mixB .any l.toArray l1 l2 = true) (hd : noDefers l.toArray = true)
  (hn : l1.length + l2.length = l.length) (hC : C { w with drawn := w.drawn + 1 })
  (h : wpQuiet P l.toArray C (fun a' => ∀ w', C w' → wpList P l.toArray (calmQ Q) (opsAt l.toArray l2) a' w') (opsAt l.toArray l1) a) : (Code.region id l.toArray true).wpIn (Fence.wide.inRound l') n P Q a w := by
 simp only [mixB, Bool.and_eq_true] at hB
 obtain ⟨⟨⟨hsel, hall⟩, hanc⟩, hwalk⟩ := hB
 have M : MixOk .any l.toArray l1 l2 := by
  refine ⟨hsel, fun j hj => ?_, fun j hj => ?_⟩
  ·have := List.all_eq_true.1 hall j (List.mem_range.2 hj)
   simpa using this
  ·have h1 := List.all_eq_true.1 hanc j hj
   rw [Bool.or_eq_true] at h1
   refine h1.imp (fun h => h) fun h2 i hi => ?_
   have h3 := List.all_eq_true.1 h2 i hi
   rw [Bool.or_eq_true] at h3
   exact h3.imp (fun h => h) fun h4 => by simpa using h4
 have inv0 : ClosedL .any l.toArray (Array.replicate l.toArray.size false) :=
  ⟨by simp, fun j oj _ hl => (by rw [getD_replicate_false] at hl; cases hl)⟩
 have H := wpH_walk1 (Q := Q) M _ hC l1 _ a (fun i hi => hi) (fun i hi => .inl hi) inv0 hwalk h
 have H2 := wpAny_of_wpH _ _ _ _ hC H
 rw [hn, show l.length = l.toArray.size by simp] at H2
 refine wpIn_mono (wpIn_region_any (Q := calmQ Q) hm (wpAny_round hd _ _ _ _ H2)) fun e a' w' hq => ?_
 cases e with
 | normal => exact hq
 | _ => exact absurd hq (fun h => h)
theorem wpIn_region_mixA {P : Program} {id n l' : Nat} {Q : Exit → Act → World → Prop} {a : Act} {w : World} {l : List Oper} (B : Nat) (l1 l2 : List Nat) (hm : P.follows .mixedOrders = true) (hB : mixB .any l.toArray l1 l2 = true) (hd : noDefers l.toArray = true)
  (hn : l1.length + l2.length = l.length)
  (h : wpQuiet P l.toArray (fun w' => ∃ k : After B w, w' = k.w) (fun a' => ∀ k : After B w, wpList P l.toArray (calmQ Q) (opsAt l.toArray l2) a' k.w) (opsAt l.toArray l1) a) : (Code.region id l.toArray true).wpIn (Fence.wide.inRound l') n P Q a w := by
 refine wpIn_region_mix (C := fun w' => ∃ k : After B w, w' = k.w) l1 l2 hm hB hd hn ⟨⟨_, (Below.refl B w).drew⟩, rfl⟩ ?_
 have e : (fun a' => ∀ w', (∃ k : After B w, w' = k.w) → wpList P l.toArray (calmQ Q) (opsAt l.toArray l2) a' w') = fun a' => ∀ k : After B w, wpList P l.toArray (calmQ Q) (opsAt l.toArray l2) a' k.w := by
  funext a'
  apply propext
  exact ⟨fun h k => h _ ⟨k, rfl⟩, fun h w' ⟨k, hk⟩ => hk ▸ h k⟩
 rw [e]
 exact h
end Go.Proofs.YtbhppbeepmllaaaGreatDoor
