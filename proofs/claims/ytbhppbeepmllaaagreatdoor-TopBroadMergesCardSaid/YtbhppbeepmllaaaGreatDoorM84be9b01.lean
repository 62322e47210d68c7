import Derived.Test.YtbhppbeepmllaaaGreatDoorM2bc178ab
import Derived.OrdersHeld
import Derived.Deep.RegionHeld
set_option linter.unusedVariables false
set_option linter.unusedSimpArgs false
namespace Go.Proofs.YtbhppbeepmllaaaGreatDoor
open Go.RowKit
variable {P : Program} {ops : Array Oper} {Q : Exit → Act → World → Prop} {md : Region.Mode} {T : Nat → World → Prop}

def wpAnyT (P : Program) (md : Region.Mode) (ops : Array Oper) (Q : Exit → Act → World → Prop) (T : Nat → World → Prop) : Nat → Array Bool → Act → World → Prop
 | 0, listed, a, w => Region.ready md ops listed = [] ∧ Q .normal a w
 | fuel + 1, listed, a, w =>
  (Region.ready md ops listed = [] → Q .normal a w) ∧
  ∀ i ∈ Region.ready md ops listed, wpOp P ops Q i (fun a' w' => T i w' ∧ wpAnyT P md ops Q T fuel (listed.setIfInBounds i true) a' w') a w

theorem wpAny_of_T : ∀ (fuel : Nat) (listed : Array Bool) (a : Act) (w : World), wpAnyT P md ops Q T fuel listed a w → wpAny P md ops Q fuel listed a w
 | 0, _, _, _, h => h
 | fuel + 1, _, _, _, h => ⟨h.1, fun i hi => wpOp_mono (fun a' w' h' => wpAny_of_T fuel _ a' w' h'.2) (h.2 i hi)⟩

theorem wpAnyT_first {S : World → Prop} {i : Nat} {oi : Oper} {v : Value} (hi : ops[i]? = some oi) (hsel : ∀ (j : Nat) (o : Oper) cs b, ops[j]? = some o → o.op ≠ .select cs b)
  (hQ : ∀ c a w, Q (.panic c) (a.put oi.dst v) w → Q (.panic c) a w) (hT : ∀ j oj, ops[j]? = some oj → (∀ e ∈ oj.after, Region.binds md e = true → e.on ≠ i) → ∀ w, T j w → S w) (hTi : ∀ w, S w → T i w) :
  ∀ (fuel : Nat) (listed : Array Bool) (a : Act) (w : World),
   (∀ j oj, ops[j]? = some oj → j ≠ i → listed.getD j true = false → (∀ e ∈ oj.after, Region.binds md e = true → e.on ≠ i) → oi.apart ops oj = true) →
   i ∈ Region.ready md ops listed → YieldsIf P ops S oi v a → S w →
   wpAnyT P md ops Q T fuel (listed.setIfInBounds i true) (a.put oi.dst v) w → wpAnyT P md ops Q T (fuel + 1) listed a w := by
 intro fuel
 induction fuel with
 | zero =>
  intro listed a w _ hr hy hS H
  refine ⟨fun h => (by rw [h] at hr; cases hr), fun j hj => ?_⟩
  rcases Nat.decEq j i with hji | hji
  ·have h0 := ready_mono hj hji
   rw [H.1] at h0
   cases h0
  ·subst hji; exact hy.wpOp hi hS ⟨hTi w hS, H⟩
 | succ fuel ih =>
  intro listed a w hfree hr hy hS H
  refine ⟨fun h => (by rw [h] at hr; cases hr), fun j hj => ?_⟩
  rcases Nat.decEq j i with hji | hji
  ·have hun := (mem_ready.1 hr).1
   obtain ⟨hjun, oj, hoj, hall⟩ := mem_ready.1 hj
   have hnot : ∀ e ∈ oj.after, Region.binds md e = true → e.on ≠ i := fun e he hb heq => by
    have h1 := hall e he hb
    rw [heq, getD_both hun] at h1
    cases h1
   have hfree' : ∀ k ok, ops[k]? = some ok → k ≠ i → (listed.setIfInBounds j true).getD k true = false →
     (∀ e ∈ ok.after, Region.binds md e = true → e.on ≠ i) → oi.apart ops ok = true := fun k ok hk hki hlk hno => by
    refine hfree k ok hk hki ?_ hno
    rcases Nat.decEq j k with e | e
    ·rw [getD_set_ne true e] at hlk; exact hlk
    ·subst e; exact hjun
   have hput := wpOp_putIf hoj (hfree j oj hoj hji hjun hnot) (fun cs b => hsel i oi cs b hi) (fun cs b => hsel j oj cs b hoj) hQ hy (H.2 j (ready_mono hj hji))
   refine wpOp_mono (fun a' w' h3 => ⟨h3.2.1, ih _ a' w' hfree' (ready_mono hr (Ne.symm hji)) h3.1 (hT j oj hoj hnot w' h3.2.1) ?_⟩) hput
   rw [Array.setIfInBounds_comm _ _ hji]
   exact h3.2.2
  ·subst hji; exact hy.wpOp hi hS ⟨hTi w hS, H⟩
def waitsB (md : Region.Mode) (o : Oper) (i : Nat) : Bool := o.after.toList.any fun e => Region.binds md e && e.on == i
theorem waitsB_no {md : Region.Mode} {o : Oper} {i : Nat} (h : ∀ e ∈ o.after, Region.binds md e = true → e.on ≠ i) : waitsB md o i = false := by
 unfold waitsB
 rw [List.any_eq_false]
 intro e he
 simp only [Bool.and_eq_true, beq_iff_eq, not_and]
 exact fun hb => h e (Array.mem_toList_iff.1 he) hb
theorem wpAnyT_take {S : World → Prop} {i : Nat} {oi : Oper} {v : Value} {fuel : Nat} {listed : Array Bool} {a : Act} {w : World} (hi : ops[i]? = some oi)
  (hs : Region.noSelect ops = true) (hf : Region.free md ops listed i = true) (hr : (Region.ready md ops listed).contains i = true)
  (hQ : ∀ c a w, Q (.panic c) (a.put oi.dst v) w → Q (.panic c) a w) (hT : ∀ j oj, ops[j]? = some oj → waitsB md oj i = false → ∀ w, T j w → S w) (hTi : ∀ w, S w → T i w) (hy : YieldsIf P ops S oi v a) (hS : S w)
  (h : wpAnyT P md ops Q T fuel (listed.setIfInBounds i true) (a.put oi.dst v) w) : wpAnyT P md ops Q T (fuel + 1) listed a w :=
 wpAnyT_first hi (Region.noSelect_spec hs) hQ (fun j oj hj hn => hT j oj hj (waitsB_no hn)) hTi fuel listed a w (Region.free_spec hi hf) (by simpa using hr) hy hS h
theorem waits_le {i N : Nat} (h : ((List.range ops.size).all fun j => decide (j ≤ N) || (match ops[j]? with | some o => waitsB md o i | none => true)) = true) : ∀ j oj, ops[j]? = some oj → waitsB md oj i = false → j ≤ N := by
 intro j oj hj hw
 have hlt : j < ops.size := (Array.getElem?_eq_some_iff.1 hj).1
 have := List.all_eq_true.1 h j (List.mem_range.2 hlt)
 rw [hj] at this
 simpa [hw] using this
theorem wpAnyT_two {i k : Nat} {oi ok : Oper} {fuel : Nat} {listed : Array Bool} {a : Act} {w : World} (hr : Region.ready md ops listed = [i, k]) (hi : ops[i]? = some oi) (hk : ops[k]? = some ok)
  (h1 : ∀ K' : Act → World → Prop, Shut (∀ a w, T i w → wpAnyT P md ops Q T fuel (listed.setIfInBounds i true) a w → K' a w) → if Region.wanted oi (yielded ops a.tmps) = true then Oper.wp P oi a w K' Q else K' (a.put oi.dst undef) w)
  (h2 : ∀ K' : Act → World → Prop, Shut (∀ a w, T k w → wpAnyT P md ops Q T fuel (listed.setIfInBounds k true) a w → K' a w) → if Region.wanted ok (yielded ops a.tmps) = true then Oper.wp P ok a w K' Q else K' (a.put ok.dst undef) w) :
  wpAnyT P md ops Q T (fuel + 1) listed a w := by
 refine ⟨fun h0 => (by rw [hr] at h0; cases h0), fun j hj => ?_⟩
 rw [hr] at hj
 rcases List.mem_cons.1 hj with rfl | hj
 ·exact wpOp_step hi (fun K' hK => h1 K' (fun a w h1 h2 => hK a w ⟨h1, h2⟩))
 ·obtain rfl : j = k := by simpa using hj
  exact wpOp_step hk (fun K' hK => h2 K' (fun a w h1 h2 => hK a w ⟨h1, h2⟩))
theorem wpAnyT_one {i : Nat} {o : Oper} {fuel : Nat} {listed : Array Bool} {a : Act} {w : World} (hr : Region.ready md ops listed = [i]) (ho : ops[i]? = some o)
  (h : ∀ K' : Act → World → Prop, Shut (∀ a w, T i w → wpAnyT P md ops Q T fuel (listed.setIfInBounds i true) a w → K' a w) → if Region.wanted o (yielded ops a.tmps) = true then Oper.wp P o a w K' Q else K' (a.put o.dst undef) w) :
  wpAnyT P md ops Q T (fuel + 1) listed a w := by
 refine ⟨fun h0 => (by rw [hr] at h0; cases h0), fun j hj => ?_⟩
 rw [hr] at hj
 obtain rfl : j = i := by simpa using hj
 exact wpOp_step ho (fun K' hK => h K' (fun a w h1 h2 => hK a w ⟨h1, h2⟩))
def walkT (md : Region.Mode) (ops : Array Oper) : List Nat → Array Bool → Bool
 | [], listed => (Region.ready md ops listed).isEmpty
 | k :: l, listed => decide (k < ops.size) && decide (Region.ready md ops listed = [k]) && walkT md ops l (listed.setIfInBounds k true)
theorem wpAnyT_walk : ∀ (l : List Nat) (listed : Array Bool) (a : Act) (w : World), (∀ k ∈ l, ∀ w, T k w) → walkT md ops l listed = true → wpList P ops Q (opsAt ops l) a w → wpAnyT P md ops Q T l.length listed a w
 | [], listed, a, w, _, hB, h => ⟨by simpa [walkT] using hB, h⟩
 | k :: l, listed, a, w, hT, hB, h => by
  simp only [walkT, Bool.and_eq_true, decide_eq_true_eq] at hB
  obtain ⟨⟨hks, hB1⟩, hB2⟩ := hB
  have h0 : ops[k]? = some ops[k] := Array.getElem?_eq_getElem hks
  have hop : wpOp P ops Q k (wpList P ops Q (opsAt ops l)) a w := by
   unfold wpOp
   simp only [h0]
   have : opsAt ops (k :: l) = ops[k] :: opsAt ops l := by simp [opsAt, h0]
   rw [this] at h
   exact h
  refine ⟨fun h1 => (by rw [hB1] at h1; cases h1), fun i hi => ?_⟩
  rw [hB1] at hi
  have hik : i = k := by simpa using hi
  subst hik
  exact wpOp_mono (fun a' w' h' => ⟨hT i (by simp) w', wpAnyT_walk l _ a' w' (fun j hj => hT j (by simp [hj])) hB2 h'⟩) hop
theorem wpAnyT_done {listed : Array Bool} {a : Act} {w : World} (hr : Region.ready md ops listed = []) (h : Q .normal a w) : ∀ fuel, wpAnyT P md ops Q T fuel listed a w
 | 0 => ⟨hr, h⟩
 | _ + 1 => ⟨fun _ => h, by rw [hr]; simp⟩
theorem wp_region_T {id : Nat} {a : Act} {w : World} (T : Nat → World → Prop) (hm : P.follows .mixedOrders = true) (h : wpAnyT P .any ops (calmQ Q) T ops.size (Array.replicate ops.size false) a w.drew) : (Code.region id ops true).wp P Q a w := by
 refine wp_mono (wp_region_any (Q := calmQ Q) hm (wpAny_of_T _ _ _ _ h)) fun e a' w' hq => ?_
 cases e with
 | normal => exact hq
 | _ => exact absurd hq (fun h => h)
theorem wpIn_region_T {id n l : Nat} {a : Act} {w : World} (T : Nat → World → Prop) (hm : P.follows .mixedOrders = true) (hd : noDefers ops = true) (h : wpAnyT P .any ops (calmQ Q) T ops.size (Array.replicate ops.size false) a w.drew) : (Code.region id ops true).wpIn (Fence.wide.inRound l) n P Q a w := by
 refine wpIn_mono (wpIn_region_any (Q := calmQ Q) hm (wpAny_round hd _ _ _ _ (wpAny_of_T _ _ _ _ h))) fun e a' w' hq => ?_
 cases e with
 | normal => exact hq
 | _ => exact absurd hq (fun h => h)
end Go.Proofs.YtbhppbeepmllaaaGreatDoor

namespace Go.Proofs.YtbhppbeepmllaaaGreatDoor
open Go.RowKit
variable {P : Program} {ops : Array Oper} {Q : Exit → Act → World → Prop} {md : Region.Mode} {T : Nat → World → Prop}

theorem wpAnyT_first2 {S : World → Prop} {i : Nat} {oi : Oper} {v : Value} (hi : ops[i]? = some oi) (hsel : ∀ (j : Nat) (o : Oper) cs b, ops[j]? = some o → o.op ≠ .select cs b)
  (hQ : ∀ c a w, Q (.panic c) (a.put oi.dst v) w → Q (.panic c) a w) (hTi : ∀ w, S w → T i w) :
  ∀ (fuel : Nat) (listed : Array Bool) (a : Act) (w : World),
   (∀ j oj, ops[j]? = some oj → j ≠ i → listed.getD j true = false → (∀ e ∈ oj.after, Region.binds md e = true → e.on ≠ i) → oi.apart ops oj = true) →
   (∀ j oj, ops[j]? = some oj → j ≠ i → listed.getD j true = false → (∀ e ∈ oj.after, Region.binds md e = true → e.on ≠ i) → ∀ w, T j w → S w) →
   i ∈ Region.ready md ops listed → YieldsIf P ops S oi v a → S w →
   wpAnyT P md ops Q T fuel (listed.setIfInBounds i true) (a.put oi.dst v) w → wpAnyT P md ops Q T (fuel + 1) listed a w := by
 intro fuel
 induction fuel with
 | zero =>
  intro listed a w _ _ hr hy hS H
  refine ⟨fun h => (by rw [h] at hr; cases hr), fun j hj => ?_⟩
  rcases Nat.decEq j i with hji | hji
  ·have h0 := ready_mono hj hji
   rw [H.1] at h0
   cases h0
  ·subst hji; exact hy.wpOp hi hS ⟨hTi w hS, H⟩
 | succ fuel ih =>
  intro listed a w hfree hT hr hy hS H
  refine ⟨fun h => (by rw [h] at hr; cases hr), fun j hj => ?_⟩
  rcases Nat.decEq j i with hji | hji
  ·have hun := (mem_ready.1 hr).1
   obtain ⟨hjun, oj, hoj, hall⟩ := mem_ready.1 hj
   have hnot : ∀ e ∈ oj.after, Region.binds md e = true → e.on ≠ i := fun e he hb heq => by
    have h1 := hall e he hb
    rw [heq, getD_both hun] at h1
    cases h1
   have hfree' : ∀ k ok, ops[k]? = some ok → k ≠ i → (listed.setIfInBounds j true).getD k true = false →
     (∀ e ∈ ok.after, Region.binds md e = true → e.on ≠ i) → oi.apart ops ok = true := fun k ok hk hki hlk hno => by
    refine hfree k ok hk hki ?_ hno
    rcases Nat.decEq j k with e | e
    ·rw [getD_set_ne true e] at hlk; exact hlk
    ·subst e; exact hjun
   have hT' : ∀ k ok, ops[k]? = some ok → k ≠ i → (listed.setIfInBounds j true).getD k true = false → (∀ e ∈ ok.after, Region.binds md e = true → e.on ≠ i) → ∀ w, T k w → S w := fun k ok hk hki hlk hno => by
    refine hT k ok hk hki ?_ hno
    rcases Nat.decEq j k with e | e
    ·rw [getD_set_ne true e] at hlk; exact hlk
    ·subst e; exact hjun
   have hput := wpOp_putIf hoj (hfree j oj hoj hji hjun hnot) (fun cs b => hsel i oi cs b hi) (fun cs b => hsel j oj cs b hoj) hQ hy (H.2 j (ready_mono hj hji))
   refine wpOp_mono (fun a' w' h3 => ⟨h3.2.1, ih _ a' w' hfree' hT' (ready_mono hr (Ne.symm hji)) h3.1 (hT j oj hoj hji hjun hnot w' h3.2.1) ?_⟩) hput
   rw [Array.setIfInBounds_comm _ _ hji]
   exact h3.2.2
  ·subst hji; exact hy.wpOp hi hS ⟨hTi w hS, H⟩
def lateB (md : Region.Mode) (ops : Array Oper) (listed : Array Bool) (i : Nat) (l : List Nat) : Bool :=
 (List.range ops.size).all fun j => listed.getD j true || j == i || l.contains j || (match ops[j]? with | some o => waitsB md o i | none => true)
theorem wpAnyT_take2 {S : World → Prop} {i : Nat} {oi : Oper} {v : Value} {fuel : Nat} {listed : Array Bool} {a : Act} {w : World} (l : List Nat) (hi : ops[i]? = some oi)
  (hs : Region.noSelect ops = true) (hf : Region.free md ops listed i = true) (hr : (Region.ready md ops listed).contains i = true) (hb : lateB md ops listed i l = true)
  (hQ : ∀ c a w, Q (.panic c) (a.put oi.dst v) w → Q (.panic c) a w) (hT : ∀ j ∈ l, ∀ w, T j w → S w) (hTi : ∀ w, S w → T i w) (hy : YieldsIf P ops S oi v a) (hS : S w)
  (h : wpAnyT P md ops Q T fuel (listed.setIfInBounds i true) (a.put oi.dst v) w) : wpAnyT P md ops Q T (fuel + 1) listed a w :=
 wpAnyT_first2 hi (Region.noSelect_spec hs) hQ hTi fuel listed a w (Region.free_spec hi hf) (fun j oj hj hne hun hn => by
  have hlt : j < ops.size := (Array.getElem?_eq_some_iff.1 hj).1
  have h1 := List.all_eq_true.1 hb j (List.mem_range.2 hlt)
  rw [hj, hun] at h1
  simp only [waitsB_no hn, Bool.false_or, Bool.or_false, Bool.or_eq_true, beq_iff_eq, List.contains_iff_mem] at h1
  rcases h1 with h1 | h1
  ·exact absurd h1 hne
  ·exact hT j h1) (by simpa using hr) hy hS h
end Go.Proofs.YtbhppbeepmllaaaGreatDoor
