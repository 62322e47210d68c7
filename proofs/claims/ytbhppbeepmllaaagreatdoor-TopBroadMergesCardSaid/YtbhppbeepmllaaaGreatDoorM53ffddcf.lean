import Derived.StillTail
import Derived.Deep.Quiet
import Derived.WalkKit
set_option linter.unusedVariables false
set_option linter.unusedSimpArgs false
namespace Go.Proofs.YtbhppbeepmllaaaGreatDoor
section
variable {P : Program} {ops : Array Oper} {md : Region.Mode} {C : World → Prop}

def wpAnyLQ (P : Program) (md : Region.Mode) (ops : Array Oper) (C : World → Prop) (n : Nat) (L : Array Bool → Act → Prop) : Nat → Array Bool → Act → Prop
 | 0, listed, a => L listed a
 | f + 1, listed, a =>
  Region.ready md ops listed ≠ [] ∧ ∀ i ∈ Region.ready md ops listed, i < n ∧ qOp P ops C i (wpAnyLQ P md ops C n L f (listed.setIfInBounds i true)) a

theorem wpAny_of_headQ {n g : Nat} {L : Array Bool → Act → Prop} {Q' : Exit → Act → World → Prop} (hL : ∀ listed a w, C w → L listed a → wpAny P md ops Q' g listed a w) :
  ∀ (f : Nat) (listed : Array Bool) (a : Act) (w : World), C w → wpAnyLQ P md ops C n L f listed a → wpAny P md ops Q' (f + g) listed a w
 | 0, listed, a, w, hw, h => by rw [Nat.zero_add]; exact hL _ _ _ hw h
 | f + 1, listed, a, w, hw, h => by
  rw [show f + 1 + g = (f + g) + 1 by omega]
  exact ⟨fun h0 => absurd h0 h.1, fun i hi => wpOp_of_qOp hw (fun a' w' hw' h' => wpAny_of_headQ hL f _ a' w' hw' h') (h.2 i hi).2⟩

theorem wpAnyLQ_first {n i : Nat} {oi : Oper} {v : Value} {L : Array Bool → Act → Prop} (hi : ops[i]? = some oi) (hsel : ∀ (j : Nat) (o : Oper) cs b, ops[j]? = some o → o.op ≠ .select cs b)
  (hs : Region.sinkB md ops n = true) (hc : Region.chainB md ops n = true) (hn : n < ops.size) (hin : i < n)
  (hdone : ∀ listed a, L listed a → ∀ j ∈ Region.ready md ops listed, n ≤ j) :
  ∀ (f : Nat) (listed : Array Bool) (a : Act), HeadInv md ops n listed →
   (∀ j oj, ops[j]? = some oj → j ≠ i → listed.getD j true = false → (∀ e ∈ oj.after, Region.binds md e = true → e.on ≠ i) → oi.apart ops oj = true) →
   i ∈ Region.ready md ops listed → YieldsIn P ops C oi v a →
   wpAnyLQ P md ops C n L f (listed.setIfInBounds i true) (a.put oi.dst v) → wpAnyLQ P md ops C n L (f + 1) listed a := by
 intro f
 induction f with
 | zero =>
  intro listed a inv _ hr hy H
  have hun := (mem_ready.1 hr).1
  refine ⟨fun h => (by rw [h] at hr; cases hr), fun j hj => ?_⟩
  have hjn : j < n := by
   rcases Nat.lt_or_ge j n with h | h
   ·exact h
   ·exact absurd hj (tail_waits hs hc hn inv _ i rfl hin hun j h)
  refine ⟨hjn, ?_⟩
  by_cases hji : j = i
  ·subst hji; exact hy.qOp hi H
  ·have := hdone _ _ H j (ready_mono hj hji)
   omega
 | succ f ih =>
  intro listed a inv hfree hr hy H
  have hun := (mem_ready.1 hr).1
  refine ⟨fun h => (by rw [h] at hr; cases hr), fun j hj => ?_⟩
  have hjn : j < n := by
   rcases Nat.lt_or_ge j n with h | h
   ·exact h
   ·exact absurd hj (tail_waits hs hc hn inv _ i rfl hin hun j h)
  refine ⟨hjn, ?_⟩
  by_cases hji : j = i
  ·subst hji; exact hy.qOp hi H
  ·have h1 := (H.2 j (ready_mono hj hji)).2
   obtain ⟨hjun, oj, hoj, hall⟩ := mem_ready.1 hj
   have hnot : ∀ e ∈ oj.after, Region.binds md e = true → e.on ≠ i := fun e he hb heq => by
    have h1 := hall e he hb
    rw [heq, getD_both hun] at h1
    cases h1
   have h2 := qOp_put hoj (hfree j oj hoj hji hjun hnot) (fun cs b => hsel i oi cs b hi) (fun cs b => hsel j oj cs b hoj) hy h1
   have hfree' : ∀ k ok, ops[k]? = some ok → k ≠ i → (listed.setIfInBounds j true).getD k true = false →
     (∀ e ∈ ok.after, Region.binds md e = true → e.on ≠ i) → oi.apart ops ok = true := fun k ok hk hki hun hno => by
    refine hfree k ok hk hki ?_ hno
    by_cases hjk : j = k
    ·subst hjk; exact hjun
    ·rw [getD_set_ne true hjk] at hun; exact hun
   refine qOp_mono (fun a' h3 => ih (listed.setIfInBounds j true) a' (inv.set hj hjn) hfree' (ready_mono hr (Ne.symm hji)) h3.1 ?_) h2
   rw [Array.setIfInBounds_comm _ _ hji]
   exact h3.2

theorem wpAnyLQ_lex {n g : Nat} {Lq : Act → Prop} (hsel : Region.noSelect ops = true) (hs : Region.sinkB md ops n = true) (hc : Region.chainB md ops n = true) (hn : n < ops.size) :
  ∀ (l : List Oper) (k : Nat) (listed : Array Bool) (a : Act), (∀ j, j < l.length → l[j]? = ops[k + j]?) → k + l.length = n → HeadInv md ops n listed →
  Region.lexHead md ops g l.length k listed = true → wpQuiet P ops C Lq l a →
  wpAnyLQ P md ops C n (fun listed' a' => Region.seqB md ops g n listed' = true ∧ Lq a') l.length listed a
 | [], k, listed, a, _, hk, _, hB, h => by
  have : k = n := by simpa using hk
  subst this
  exact ⟨by simpa [Region.lexHead] using hB, h⟩
 | o :: l, k, listed, a, hl, hk, inv, hB, h => by
  have h0 : ops[k]? = some o := by simpa using (hl 0 (by simp)).symm
  simp only [List.length_cons, Region.lexHead, Bool.and_eq_true] at hB
  obtain ⟨⟨hr, hf⟩, hB'⟩ := hB
  have hkn : k < n := by simp only [List.length_cons] at hk; omega
  have hr' : k ∈ Region.ready md ops listed := by simpa using hr
  have hst : qOp P ops C k (wpQuiet P ops C Lq l) a := by unfold qOp; simp only [h0]; exact h
  obtain ⟨v, hy, hK⟩ := yieldsIn_of_qOp h0 hst
  exact wpAnyLQ_first h0 (Region.noSelect_spec hsel) hs hc hn hkn (fun listed' a' hL => seqB_ready hL.1) l.length listed a inv (Region.free_spec h0 hf) hr' hy
   (wpAnyLQ_lex hsel hs hc hn l (k + 1) _ _ (fun j hj => by have := hl (j + 1) (by simp; omega); simpa [Nat.add_assoc, Nat.add_comm 1 j] using this) (by simp only [List.length_cons] at hk; omega) (inv.set hr' hkn) hB' hK)

theorem wp_region_quiet_tail {id : Nat} {Q : Exit → Act → World → Prop} {a : Act} {w : World} {l : List Oper} (n : Nat) (hm : P.follows .mixedOrders = true) (hB : Region.lexTailB .any l.toArray n = true)
  (hC : C { w with drawn := w.drawn + 1 })
  (h : wpQuiet P l.toArray C (fun a' => ∀ w', C w' → wpList P l.toArray Q (l.drop n) a' w') (l.take n) a) : (Code.region id l.toArray true).wp P Q a w := by
 simp only [Region.lexTailB, Bool.and_eq_true, decide_eq_true_eq] at hB
 obtain ⟨⟨⟨⟨hsel, hn⟩, hs⟩, hc⟩, hlex⟩ := hB
 have hn' : n < l.length := by simpa using hn
 have htl : (l.take n).length = n := by simp; omega
 have hdl : (l.drop n).length = l.toArray.size - n := by simp
 have inv0 : HeadInv .any l.toArray n (Array.replicate l.toArray.size false) :=
  ⟨by simp, fun j oj _ hl => (by rw [getD_replicate_false] at hl; cases hl), fun t _ ht => getD_in (by simpa using ht) (getD_replicate_false _ _)⟩
 have H := wpAnyLQ_lex (md := .any) (g := l.toArray.size - n) hsel hs hc hn (l.take n) 0 _ a (fun j hj => by
  have hj' : j < n := by rw [htl] at hj; exact hj
  simp [hj']) (by simpa using htl) inv0 (by rw [htl]; exact hlex) h
 refine wp_region_any hm ?_
 have := wpAny_of_headQ (Q' := Q) (g := l.toArray.size - n) (fun listed a' w' hw' hL => by
  have := wpAny_of_seq (md := .any) (Q' := Q) (l.drop n) n listed a' w' (fun j => by simp [List.getElem?_drop]) (by rw [hdl]; exact hL.1) (hL.2 w' hw')
  rwa [hdl] at this) _ _ _ _ hC H
 rw [htl, show n + (l.toArray.size - n) = l.toArray.size by omega] at this
 exact this
end
open Go.RowKit

structure After (B : Nat) (w0 : World) where
 w : World
 h : Below B w0 w
instance (B : Nat) (w0 : World) : Nonempty (After B w0) := ⟨⟨w0, Below.refl _ _⟩⟩

theorem After.cell {B : Nat} {w0 : World} (k : After B w0) {b o : Nat} {v : Value} (hb : b < B) (h : w0.cell? ⟨b, o, none⟩ = some v) : k.w.cell? ⟨b, o, none⟩ = some v :=
 (k.h.cell (p := ⟨b, o, none⟩) hb).trans h

theorem after_of {P : Program} {f : FuncId} {args : Array Value} {B : Nat} {w0 : World} {v : Value} (hB : B ≤ w0.heap.size) (k : After B w0)
  (h : Calls P f args k.w fun e w' => e = .returned v ∧ Below k.w.heap.size k.w w') : Calls P f args k.w fun e w'' => e = .returned v ∧ ∃ k' : After B w0, w'' = k'.w :=
 h.mono fun _ w' ⟨he, hb⟩ => ⟨he, ⟨w', k.h.trans (hb.mono (Nat.le_trans hB k.h.size))⟩, rfl⟩
theorem after_eq {P : Program} {f : FuncId} {args : Array Value} {B : Nat} {w0 : World} {v : Value} (k : After B w0)
  (h : Calls P f args k.w fun e w' => e = .returned v ∧ k.w = w') : Calls P f args k.w fun e w'' => e = .returned v ∧ ∃ k' : After B w0, w'' = k'.w :=
 h.mono fun _ _ ⟨he, hb⟩ => ⟨he, k, hb.symm⟩

theorem wp_region_after {P : Program} {id : Nat} {Q : Exit → Act → World → Prop} {a : Act} {w : World} {l : List Oper} (B : Nat) (hm : P.follows .mixedOrders = true) (hB : Region.lexB .any l.toArray = true)
  (h : wpQuiet P l.toArray (fun w' => ∃ k : After B w, w' = k.w) (fun a' => ∀ k : After B w, Q .normal a' k.w) l a) : (Code.region id l.toArray true).wp P Q a w := by
 refine wp_region_quiet (C := fun w' => ∃ k : After B w, w' = k.w) hm hB ⟨⟨_, (Below.refl B w).drew⟩, rfl⟩ ?_
 have e : (fun a' => ∀ w', (∃ k : After B w, w' = k.w) → Q .normal a' w') = fun a' => ∀ k : After B w, Q .normal a' k.w := by
  funext a'
  apply propext
  exact ⟨fun h k => h _ ⟨k, rfl⟩, fun h w' ⟨k, hk⟩ => hk ▸ h k⟩
 rw [e]
 simpa using h

theorem wp_region_tail {P : Program} {id : Nat} {Q : Exit → Act → World → Prop} {a : Act} {w : World} {l : List Oper} (B n : Nat) (hm : P.follows .mixedOrders = true) (hB : Region.lexTailB .any l.toArray n = true)
  (h : wpQuiet P l.toArray (fun w' => ∃ k : After B w, w' = k.w) (fun a' => ∀ k : After B w, wpList P l.toArray Q (l.drop n) a' k.w) (l.take n) a) : (Code.region id l.toArray true).wp P Q a w := by
 refine wp_region_quiet_tail (C := fun w' => ∃ k : After B w, w' = k.w) n hm hB ⟨⟨_, (Below.refl B w).drew⟩, rfl⟩ ?_
 have e : (fun a' => ∀ w', (∃ k : After B w, w' = k.w) → wpList P l.toArray Q (l.drop n) a' w') = fun a' => ∀ k : After B w, wpList P l.toArray Q (l.drop n) a' k.w := by
  funext a'
  apply propext
  exact ⟨fun h k => h _ ⟨k, rfl⟩, fun h w' ⟨k, hk⟩ => hk ▸ h k⟩
 rw [e]
 exact h
end Go.Proofs.YtbhppbeepmllaaaGreatDoor

namespace Go.Proofs.YtbhppbeepmllaaaGreatDoor
section
variable {P : Program} {ops : Array Oper} {md : Region.Mode} {C : World → Prop}

def freeKind (o : Oper) : Bool :=
 match o.op with
 | .move _ | .assign _ | .extract .. | .pick .. => true
 | _ => false

theorem free_run {o : Oper} (hk : freeKind o = true) {ρ : Operand → Value} {w w1 : World} {n : Next} (h : (execOp ρ o).run P w = .ok n w1) :
  ∃ v, n = .value v ∧ w1 = w ∧ ∀ w', (execOp ρ o).run P w' = .ok (.value v) w' := by
 unfold freeKind at hk
 unfold execOp at h ⊢
 split at hk
 ·rename_i x hx
  simp only [hx] at h ⊢
  simp [pure, Sem.run] at h
  exact ⟨_, h.1.symm, h.2.symm, fun _ => rfl⟩
 ·rename_i x hx
  simp only [hx] at h ⊢
  simp [pure, Sem.run] at h
  exact ⟨_, h.1.symm, h.2.symm, fun _ => rfl⟩
 ·rename_i x i hx
  simp only [hx] at h ⊢
  cases hv : ρ x <;> simp only [hv, Instr.extract] at h ⊢
  case tuple vs =>
   cases hw : vs[i]? with
   | some v =>
    simp only [hw] at h ⊢
    simp [pure, Bind.bind, Sem.bind, Sem.run] at h
    exact ⟨_, h.1.symm, h.2.symm, fun _ => by simp [pure, Bind.bind, Sem.bind, Sem.run]⟩
   | none => simp only [hw] at h; simp [Bind.bind, Sem.bind, stuck, Sem.run] at h
  all_goals simp [Bind.bind, Sem.bind, stuck, Sem.run] at h
 ·rename_i c x y hx
  simp only [hx] at h ⊢
  cases hv : ρ c <;> simp only [hv, asBool] at h ⊢
  case bool b =>
   simp [pure, Bind.bind, Sem.bind, Sem.run] at h
   exact ⟨_, h.1.symm, h.2.symm, fun _ => by simp [pure, Bind.bind, Sem.bind, Sem.run]⟩
  all_goals simp [Bind.bind, Sem.bind, stuck, Sem.run] at h
 ·simp at hk

def calmQ (Q : Exit → Act → World → Prop) : Exit → Act → World → Prop := Exit.then (fun a w => Q .normal a w) fun _ _ _ => False

theorem calm_panic (Q : Exit → Act → World → Prop) (c : List PanicEntry) (a : Act) (w : World) : ¬ calmQ Q (.panic c) a w := fun h => h
theorem calm_lets (Q : Exit → Act → World → Prop) : ¬ LetsOut (calmQ Q) := fun ⟨_, _, h⟩ => h

theorem Yields.unique {o : Oper} {u v : Value} {a : Act} (w : World) (h : Yields P ops o u a) (h' : Yields P ops o v a) : u = v := by
 rcases h with ⟨h1, h2⟩ | ⟨h1, h2⟩ <;> rcases h' with ⟨k1, k2⟩ | ⟨k1, k2⟩
 ·have := (h2 w).symm.trans (k2 w)
  simpa using this
 ·rw [h1] at k1; cases k1
 ·rw [h1] at k1; cases k1
 ·rw [h2, k2]

theorem Yields.isIn {o : Oper} {u : Value} {a : Act} (h : Yields P ops o u a) : YieldsIn P ops C o u a := by
 rcases h with ⟨h1, h2⟩ | h
 ·exact .inl ⟨h1, fun w _ => by unfold Oper.quietAt; rw [h2 w]; exact ⟨rfl, rfl⟩⟩
 ·exact .inr h

theorem free_of_wpOp {Q : Exit → Act → World → Prop} {j : Nat} {o : Oper} (hj : ops[j]? = some o) (hk : freeKind o = true) {K : Act → World → Prop} {a : Act} {w : World}
  (h : wpOp P ops (calmQ Q) j K a w) : ∃ u, Yields P ops o u a ∧ K (a.put o.dst u) w := by
 unfold wpOp at h
 simp only [hj] at h
 by_cases hw : Region.wanted o (yielded ops a.tmps) = true
 ·simp only [hw, if_true] at h
  rcases h with h | ⟨_, h⟩
  ·unfold Oper.wp at h
   generalize hr : (execOp a.eval o).run P w = r at h
   cases r with
   | ok n w1 =>
    obtain ⟨v, rfl, rfl, hall⟩ := free_run hk hr
    exact ⟨v, .inl ⟨hw, hall⟩, h⟩
   | halt x w1 => cases x <;> exact absurd h (fun h => h)
  ·exact (calm_lets Q h).elim
 ·simp only [hw] at h
  exact ⟨undef, .inr ⟨by simpa using hw, rfl⟩, h⟩

theorem free_of_in {o : Oper} (hk : freeKind o = true) {u : Value} {a : Act} {w : World} (hw : C w) (h : YieldsIn P ops C o u a) : Yields P ops o u a := by
 rcases h with ⟨h1, h2⟩ | h
 ·have h3 := h2 w hw
  unfold Oper.quietAt at h3
  generalize hr : (execOp a.eval o).run P w = r at h3
  cases r with
  | ok n w1 =>
   obtain ⟨v, rfl, rfl, hall⟩ := free_run hk hr
   obtain ⟨_, rfl⟩ := h3
   exact .inl ⟨h1, hall⟩
  | halt x w1 => exact absurd h3 (fun h => h)
 ·exact .inr h

def ancL (md : Region.Mode) (ops : Array Oper) (j : Nat) : Nat → List Nat
 | 0 => [j]
 | s + 1 => if (ancL md ops j s).any (fun m => Region.waitsFor md ops m (j - (s + 1))) then (j - (s + 1)) :: ancL md ops j s else ancL md ops j s

def ClosedL (md : Region.Mode) (ops : Array Oper) (listed : Array Bool) : Prop :=
 listed.size = ops.size ∧ ∀ j oj, ops[j]? = some oj → listed.getD j false = true → ∀ e ∈ oj.after, Region.binds md e = true → listed.getD e.on false = true

theorem ClosedL.set {i : Nat} {listed : Array Bool} (inv : ClosedL md ops listed) (hi : i ∈ Region.ready md ops listed) : ClosedL md ops (listed.setIfInBounds i true) := by
 obtain ⟨_, oi, hoi, hall⟩ := mem_ready.1 hi
 refine ⟨by simp [inv.1], fun j oj hj hl e he hb => ?_⟩
 by_cases hij : i = j
 ·subst hij
  have : oj = oi := Option.some.inj (hj.symm.trans hoi)
  subst this
  exact getD_set_true (hall e he hb)
 ·rw [getD_set_ne false hij] at hl
  exact getD_set_true (inv.2 j oj hj hl e he hb)

theorem anc_listed {listed : Array Bool} (inv : ClosedL md ops listed) {j : Nat} (hj : j ∈ Region.ready md ops listed) :
  ∀ s i, i ∈ ancL md ops j s → i = j ∨ listed.getD i false = true
 | 0, i, h => .inl (by simpa [ancL] using h)
 | s + 1, i, h => by
  unfold ancL at h
  split at h
  ·rename_i hany
   rcases List.mem_cons.1 h with rfl | h
   ·right
    obtain ⟨m, hm, hw⟩ := List.any_eq_true.1 hany
    obtain ⟨om, hom, e, he, hb, hon⟩ := Region.waitsFor_spec hw
    rcases anc_listed inv hj s m hm with rfl | hl
    ·obtain ⟨_, o', ho', hall⟩ := mem_ready.1 hj
     have : om = o' := Option.some.inj (hom.symm.trans ho')
     subst this
     rw [← hon]; exact hall e he hb
    ·rw [← hon]; exact inv.2 m om hom hl e he hb
   ·exact anc_listed inv hj s i h
  ·exact anc_listed inv hj s i h

def freeAt (ops : Array Oper) (i : Nat) : Bool := match ops[i]? with | some o => freeKind o | none => true

def doneB (ops : Array Oper) (l1 : List Nat) (listed : Array Bool) : Bool := l1.all fun i => freeAt ops i || listed.getD i false

theorem done_set {l1 : List Nat} {listed : Array Bool} {k : Nat} (h : doneB ops l1 listed = true) : doneB ops l1 (listed.setIfInBounds k true) = true := by
 unfold doneB at *
 rw [List.all_eq_true] at *
 intro i hi
 have := h i hi
 rw [Bool.or_eq_true] at *
 exact this.imp id getD_set_true

def wpH (P : Program) (md : Region.Mode) (ops : Array Oper) (C : World → Prop) (Q : Exit → Act → World → Prop) (l1 : List Nat) : Nat → Array Bool → Act → Prop
 | 0, listed, a => doneB ops l1 listed = true ∧ ∀ w, C w → wpAny P md ops (calmQ Q) 0 listed a w
 | f + 1, listed, a => if doneB ops l1 listed = true then ∀ w, C w → wpAny P md ops (calmQ Q) (f + 1) listed a w
  else Region.ready md ops listed ≠ [] ∧ ∀ i ∈ Region.ready md ops listed, qOp P ops C i (wpH P md ops C Q l1 f (listed.setIfInBounds i true)) a

theorem wpH_done {Q : Exit → Act → World → Prop} {l1 : List Nat} {f : Nat} {listed : Array Bool} {a : Act} (hd : doneB ops l1 listed = true) :
  wpH P md ops C Q l1 f listed a ↔ ∀ w, C w → wpAny P md ops (calmQ Q) f listed a w := by
 cases f with
 | zero => exact ⟨fun h => h.2, fun h => ⟨hd, h⟩⟩
 | succ f => rw [wpH, if_pos hd]

theorem wpAny_of_wpH {Q : Exit → Act → World → Prop} {l1 : List Nat} : ∀ (f : Nat) (listed : Array Bool) (a : Act) (w : World), C w → wpH P md ops C Q l1 f listed a → wpAny P md ops (calmQ Q) f listed a w
 | 0, _, _, w, hw, h => h.2 w hw
 | f + 1, listed, a, w, hw, h => by
  by_cases hd : doneB ops l1 listed = true
  ·exact (wpH_done hd).1 h w hw
  ·rw [wpH, if_neg hd] at h
   exact ⟨fun h0 => absurd h0 h.1, fun i hi => wpOp_of_qOp hw (fun a' w' hw' h' => wpAny_of_wpH f _ a' w' hw' h') (h.2 i hi)⟩

structure MixOk (md : Region.Mode) (ops : Array Oper) (l1 l2 : List Nat) : Prop where
 sel : Region.noSelect ops = true
 all : ∀ j, j < ops.size → j ∈ l1 ∨ j ∈ l2
 anc : ∀ j ∈ l2, freeAt ops j = true ∨ ∀ i ∈ l1, freeAt ops i = true ∨ i ∈ ancL md ops j j

theorem wpH_first {Q : Exit → Act → World → Prop} {l1 l2 : List Nat} (M : MixOk md ops l1 l2) (w0 : World) (hw0 : C w0) {k : Nat} {ok : Oper} {v : Value} (hk : ops[k]? = some ok) (hk1 : k ∈ l1) :
  ∀ (f : Nat) (listed : Array Bool) (a : Act), ClosedL md ops listed →
   (∀ j oj, ops[j]? = some oj → j ≠ k → listed.getD j true = false → (∀ e ∈ oj.after, Region.binds md e = true → e.on ≠ k) → ok.apart ops oj = true) →
   k ∈ Region.ready md ops listed → YieldsIn P ops C ok v a →
   wpH P md ops C Q l1 f (listed.setIfInBounds k true) (a.put ok.dst v) → wpH P md ops C Q l1 (f + 1) listed a := by
 have hsel := Region.noSelect_spec M.sel
 intro f
 induction f with
 | zero =>
  intro listed a inv hfree hr hy H
  have hrem : ∀ j ∈ Region.ready md ops listed, j = k := fun j hj => by
   by_cases hjk : j = k
   ·exact hjk
   ·have h1 := ready_mono hj hjk
    have h2 := (H.2 w0 hw0).1
    rw [h2] at h1
    cases h1
  by_cases hd : doneB ops l1 listed = true
  ·rw [wpH_done hd]
   intro w hw
   have hfk : freeAt ops k = true := by
    have h1 := List.all_eq_true.1 hd k hk1
    rw [Bool.or_eq_true] at h1
    rcases h1 with h1 | h1
    ·exact h1
    ·rw [getD_both (mem_ready.1 hr).1] at h1; cases h1
   have hfo : freeKind ok = true := by unfold freeAt at hfk; rw [hk] at hfk; exact hfk
   exact wpAny_first hk hsel (fun c a w h => (calm_panic Q c _ w h).elim) 0 listed a w hfree hr (free_of_in hfo hw0 hy) (H.2 w hw)
  ·rw [wpH, if_neg hd]
   refine ⟨fun h => (by rw [h] at hr; cases hr), fun j hj => ?_⟩
   have := hrem j hj
   subst this
   exact hy.qOp hk H
 | succ f ih =>
  intro listed a inv hfree hr hy H
  have hkun := (mem_ready.1 hr).1
  by_cases hd : doneB ops l1 listed = true
  ·rw [wpH_done hd]
   intro w hw
   have hfk : freeAt ops k = true := by
    have h1 := List.all_eq_true.1 hd k hk1
    rw [Bool.or_eq_true] at h1
    rcases h1 with h1 | h1
    ·exact h1
    ·rw [getD_both hkun] at h1; cases h1
   have hfo : freeKind ok = true := by unfold freeAt at hfk; rw [hk] at hfk; exact hfk
   exact wpAny_first hk hsel (fun c a w h => (calm_panic Q c _ w h).elim) (f + 1) listed a w hfree hr (free_of_in hfo hw0 hy) ((wpH_done (done_set hd)).1 H w hw)
  ·rw [wpH, if_neg hd]
   refine ⟨fun h => (by rw [h] at hr; cases hr), fun j hj => ?_⟩
   by_cases hjk : j = k
   ·subst hjk; exact hy.qOp hk H
   ·obtain ⟨hjun, oj, hoj, hall⟩ := mem_ready.1 hj
    have hnot : ∀ e ∈ oj.after, Region.binds md e = true → e.on ≠ k := fun e he hb heq => by
     have h1 := hall e he hb
     rw [heq, getD_both hkun] at h1
     cases h1
    have hap := hfree j oj hoj hjk hjun hnot
    obtain ⟨ap1, ap2, ap3⟩ := Oper.apart_spec hap
    have hfree' : ∀ m om, ops[m]? = some om → m ≠ k → (listed.setIfInBounds j true).getD m true = false →
      (∀ e ∈ om.after, Region.binds md e = true → e.on ≠ k) → ok.apart ops om = true := fun m om hm hmk hun hno => by
     refine hfree m om hm hmk ?_ hno
     by_cases hjm : j = m
     ·subst hjm; exact hjun
     ·rw [getD_set_ne true hjm] at hun; exact hun
    by_cases hd2 : doneB ops l1 (listed.setIfInBounds k true) = true
    ·have hW := (wpH_done hd2).1 H
     have hfj : freeKind oj = true := by
      have hjs : j < ops.size := (Array.getElem?_eq_some_iff.1 hoj).1
      have hfa : freeAt ops j = true := by
       rcases M.all j hjs with h1 | h2
       ·have h3 := List.all_eq_true.1 hd2 j h1
        rw [Bool.or_eq_true] at h3
        rcases h3 with h3 | h3
        ·exact h3
        ·rw [getD_set_ne false (Ne.symm hjk), getD_both hjun] at h3; cases h3
       ·rcases M.anc j h2 with h3 | h3
        ·exact h3
        ·rcases h3 k hk1 with h4 | h4
         ·exfalso
          apply hd
          unfold doneB at *
          rw [List.all_eq_true] at *
          intro i hi
          have h5 := hd2 i hi
          rw [Bool.or_eq_true] at *
          by_cases hik : k = i
          ·subst hik; exact .inl h4
          ·rw [getD_set_ne false hik] at h5; exact h5
         ·rcases anc_listed inv hj j k h4 with h5 | h5
          ·exact absurd h5.symm hjk
          ·rw [getD_both hkun] at h5; cases h5
      unfold freeAt at hfa
      rw [hoj] at hfa
      exact hfa
     have hrj := ready_mono hj hjk
     obtain ⟨u, hyu, _⟩ := free_of_wpOp hoj hfj ((hW w0 hw0).2 j hrj)
     have hyu' : Yields P ops oj u a := hyu.of_same (execOp_put oj (fun cs b => hsel j oj cs b hoj) a ok.dst v ap1).symm (wanted_put oj a ok.dst v ap1).symm
     refine (Yields.isIn hyu').qOp hoj ?_
     refine ih _ _ (inv.set hj) hfree' (ready_mono hr (Ne.symm hjk)) (hy.of_same (execOp_put ok (fun cs b => hsel k ok cs b hk) a oj.dst u ap3) (wanted_put ok a oj.dst u ap3)) ?_
     rw [Array.setIfInBounds_comm _ _ hjk, ← Act.put_comm a v u ap2]
     rw [wpH_done (done_set hd2)]
     intro w hw
     obtain ⟨u', hyu2, hK⟩ := free_of_wpOp hoj hfj ((hW w hw).2 j hrj)
     have := Yields.unique w hyu hyu2
     subst this
     exact hK
    ·rw [wpH, if_neg hd2] at H
     have h1 := H.2 j (ready_mono hj hjk)
     have h2 := qOp_put hoj hap (fun cs b => hsel k ok cs b hk) (fun cs b => hsel j oj cs b hoj) hy h1
     refine qOp_mono (fun a' h3 => ih (listed.setIfInBounds j true) a' (inv.set hj) hfree' (ready_mono hr (Ne.symm hjk)) h3.1 ?_) h2
     rw [Array.setIfInBounds_comm _ _ hjk]
     exact h3.2

def opsAt (ops : Array Oper) (l : List Nat) : List Oper := l.map fun i => (ops[i]?).getD default

def walk2 (md : Region.Mode) (ops : Array Oper) : List Nat → Array Bool → Bool
 | [], listed => (Region.ready md ops listed).isEmpty
 | k :: l, listed => decide (k < ops.size) && (decide (Region.ready md ops listed = [k]) || (freeAt ops k && (Region.ready md ops listed).contains k && Region.free md ops listed k)) && walk2 md ops l (listed.setIfInBounds k true)

def walk1 (md : Region.Mode) (ops : Array Oper) (l2 : List Nat) : List Nat → Array Bool → Bool
 | [], listed => walk2 md ops l2 listed
 | k :: l, listed => decide (k < ops.size) && (Region.ready md ops listed).contains k && Region.free md ops listed k && walk1 md ops l2 l (listed.setIfInBounds k true)

def mixB (md : Region.Mode) (ops : Array Oper) (l1 l2 : List Nat) : Bool :=
 Region.noSelect ops && ((List.range ops.size).all fun j => l1.contains j || l2.contains j) &&
 (l2.all fun j => freeAt ops j || let A := ancL md ops j j; l1.all fun i => freeAt ops i || A.contains i) && walk1 md ops l2 l1 (Array.replicate ops.size false)

theorem wpAny_walk2 {Q : Exit → Act → World → Prop} (hs : Region.noSelect ops = true) : ∀ (l : List Nat) (listed : Array Bool) (a : Act) (w : World),
  walk2 md ops l listed = true → wpList P ops (calmQ Q) (opsAt ops l) a w → wpAny P md ops (calmQ Q) l.length listed a w
 | [], listed, a, w, hB, h => ⟨by simpa [walk2] using hB, h⟩
 | k :: l, listed, a, w, hB, h => by
  simp only [walk2, Bool.and_eq_true, decide_eq_true_eq, Bool.or_eq_true] at hB
  obtain ⟨⟨hks, hB1⟩, hB2⟩ := hB
  have h0 : ops[k]? = some ops[k] := Array.getElem?_eq_getElem hks
  have hop : wpOp P ops (calmQ Q) k (wpList P ops (calmQ Q) (opsAt ops l)) a w := by
   unfold wpOp
   simp only [h0]
   have : opsAt ops (k :: l) = ops[k] :: opsAt ops l := by simp [opsAt, h0]
   rw [this] at h
   exact h
  rcases hB1 with hB1 | ⟨⟨hf, hr⟩, hfr⟩
  ·refine ⟨fun h1 => (by rw [hB1] at h1; cases h1), fun i hi => ?_⟩
   rw [hB1] at hi
   have hik : i = k := by simpa using hi
   subst hik
   exact wpOp_mono (fun a' w' h' => wpAny_walk2 hs l _ a' w' hB2 h') hop
  ·have hfk : freeKind ops[k] = true := by unfold freeAt at hf; rw [h0] at hf; exact hf
   obtain ⟨u, hy, hK⟩ := free_of_wpOp h0 hfk hop
   exact wpAny_first h0 (Region.noSelect_spec hs) (fun c a w h => (calm_panic Q c _ w h).elim) l.length listed a w (Region.free_spec h0 hfr) (by simpa using hr) hy (wpAny_walk2 hs l _ _ w hB2 hK)

theorem wpH_walk1 {Q : Exit → Act → World → Prop} {l1 l2 : List Nat} (M : MixOk md ops l1 l2) (w0 : World) (hw0 : C w0) : ∀ (l : List Nat) (listed : Array Bool) (a : Act), (∀ i ∈ l, i ∈ l1) → (∀ i ∈ l1, i ∈ l ∨ listed.getD i false = true) →
  ClosedL md ops listed → walk1 md ops l2 l listed = true → wpQuiet P ops C (fun a' => ∀ w', C w' → wpList P ops (calmQ Q) (opsAt ops l2) a' w') (opsAt ops l) a → wpH P md ops C Q l1 (l.length + l2.length) listed a
 | [], listed, a, _, hdone, inv, hB, h => by
  have hd : doneB ops l1 listed = true := by
   unfold doneB
   rw [List.all_eq_true]
   intro i hi
   rw [Bool.or_eq_true]
   exact .inr ((hdone i hi).resolve_left (by simp))
  rw [wpH_done hd]
  intro w hw
  rw [List.length_nil, Nat.zero_add]
  exact wpAny_walk2 M.sel l2 listed a w hB (h w hw)
 | k :: l, listed, a, hin, hdone, inv, hB, h => by
  simp only [walk1, Bool.and_eq_true, decide_eq_true_eq] at hB
  obtain ⟨⟨⟨hks, hr⟩, hfr⟩, hB2⟩ := hB
  have h0 : ops[k]? = some ops[k] := Array.getElem?_eq_getElem hks
  have hr' : k ∈ Region.ready md ops listed := by simpa using hr
  have hq : qOp P ops C k (wpQuiet P ops C (fun a' => ∀ w', C w' → wpList P ops (calmQ Q) (opsAt ops l2) a' w') (opsAt ops l)) a := by
   unfold qOp
   simp only [h0]
   have : opsAt ops (k :: l) = ops[k] :: opsAt ops l := by simp [opsAt, h0]
   rw [this] at h
   exact h
  obtain ⟨v, hy, hK⟩ := yieldsIn_of_qOp h0 hq
  rw [List.length_cons, show l.length + 1 + l2.length = (l.length + l2.length) + 1 by omega]
  refine wpH_first M w0 hw0 h0 (hin k (by simp)) _ listed a inv (Region.free_spec h0 hfr) hr' hy ?_
  refine wpH_walk1 M w0 hw0 l _ _ (fun i hi => hin i (by simp [hi])) (fun i hi => ?_) (inv.set hr') hB2 hK
  rcases hdone i hi with h1 | h1
  ·rcases List.mem_cons.1 h1 with rfl | h1
   ·right
    have : i < listed.size := by rw [inv.1]; exact hks
    simp [this]
   ·exact .inl h1
  ·exact .inr (getD_set_true h1)

theorem wp_region_mix {id : Nat} {Q : Exit → Act → World → Prop} {a : Act} {w : World} {l : List Oper} (l1 l2 : List Nat) (hm : P.follows .mixedOrders = true) (hB : mixB .any l.toArray l1 l2 = true)
  (hn : l1.length + l2.length = l.length) (hC : C { w with drawn := w.drawn + 1 })
  (h : wpQuiet P l.toArray C (fun a' => ∀ w', C w' → wpList P l.toArray (calmQ Q) (opsAt l.toArray l2) a' w') (opsAt l.toArray l1) a) : (Code.region id l.toArray true).wp P Q a w := by
 simp only [mixB, Bool.and_eq_true] at hB
 obtain ⟨⟨⟨hsel, hall⟩, hanc⟩, hwalk⟩ := hB
 have M : MixOk .any l.toArray l1 l2 := by
  refine ⟨hsel, fun j hj => ?_, fun j hj => ?_⟩
  ·have := List.all_eq_true.1 hall j (List.mem_range.2 hj)
   simpa using this
  ·have h1 := List.all_eq_true.1 hanc j hj
   rw [Bool.or_eq_true] at h1
   refine h1.imp (fun h => h) fun h2 i hi => ?_
   have h3 := List.all_eq_true.1 h2 i hi
   rw [Bool.or_eq_true] at h3
   exact h3.imp (fun h => h) fun h4 => by simpa using h4
 have inv0 : ClosedL .any l.toArray (Array.replicate l.toArray.size false) :=
  ⟨by simp, fun j oj _ hl => (by rw [getD_replicate_false] at hl; cases hl)⟩
 have H := wpH_walk1 (Q := Q) M _ hC l1 _ a (fun i hi => hi) (fun i hi => .inl hi) inv0 hwalk h
 have H2 := wpAny_of_wpH _ _ _ _ hC H
 rw [hn, show l.length = l.toArray.size by simp] at H2
 refine wp_mono (wp_region_any (Q := calmQ Q) hm H2) fun e a' w' hq => ?_
 cases e with
 | normal => exact hq
 | _ => exact absurd hq (fun h => h)
end
open Go.RowKit

theorem wp_region_mixA {P : Program} {id : Nat} {Q : Exit → Act → World → Prop} {a : Act} {w : World} {l : List Oper} (B : Nat) (l1 l2 : List Nat) (hm : P.follows .mixedOrders = true) (hB : mixB .any l.toArray l1 l2 = true)
  (hn : l1.length + l2.length = l.length)
  (h : wpQuiet P l.toArray (fun w' => ∃ k : After B w, w' = k.w) (fun a' => ∀ k : After B w, wpList P l.toArray (calmQ Q) (opsAt l.toArray l2) a' k.w) (opsAt l.toArray l1) a) : (Code.region id l.toArray true).wp P Q a w := by
 refine wp_region_mix (C := fun w' => ∃ k : After B w, w' = k.w) l1 l2 hm hB hn ⟨⟨_, (Below.refl B w).drew⟩, rfl⟩ ?_
 have e : (fun a' => ∀ w', (∃ k : After B w, w' = k.w) → wpList P l.toArray (calmQ Q) (opsAt l.toArray l2) a' w') = fun a' => ∀ k : After B w, wpList P l.toArray (calmQ Q) (opsAt l.toArray l2) a' k.w := by
  funext a'
  apply propext
  exact ⟨fun h k => h _ ⟨k, rfl⟩, fun h w' ⟨k, hk⟩ => hk ▸ h k⟩
 rw [e]
 exact h
end Go.Proofs.YtbhppbeepmllaaaGreatDoor
