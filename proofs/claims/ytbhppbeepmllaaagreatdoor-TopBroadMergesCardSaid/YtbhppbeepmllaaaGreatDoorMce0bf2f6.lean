import Derived.Test.YtbhppbeepmllaaaGreatDoorM337717ca
import Derived.RangeFuncNested
import Derived.RangeFuncBound
import Derived.RangeFuncCalls
import Derived.RangeFuncLeaves
import Derived.Shelf.Abstract
import Derived.Shelf.RegionOpen
import Derived.OwnWalkIn
import Derived.TacticsInMore
import Derived.LoopNIn
import Derived.LoopIn
set_option linter.unusedVariables false
set_option linter.unusedSimpArgs false
set_option maxRecDepth 100000
set_option maxHeartbeats 4000000
namespace Go.Proofs.YtbhppbeepmllaaaGreatDoor
open Go.RowKit Go.Shelf
attribute [local go_sem] Oper.semAt_some

def upto {α : Type} (f : Nat → α) (k : Nat) : List α := (List.range k).map f
theorem upto_succ {α : Type} (f : Nat → α) (k : Nat) : upto f (k + 1) = upto f k ++ [f k] := by simp [upto, List.range_succ]
theorem upto_length {α : Type} (f : Nat → α) (k : Nat) : (upto f k).length = k := by simp [upto]
def lvEnc (c : Cfg) (vs : Nat → Lv) (key : Nat) (x : Fin (c.b + 1)) : Array Value := #[.iface (c.lt x.1) (.pointer (some ⟨(vs x.1).a, 0, none⟩)), .int .u64 ((key : Int) / 2 ^ x.1)]

theorem at1_in (F : Fence) (n : Nat) (hf : F.fn 185) (hro : F.round = none) (hn : 1 ≤ n) (l bs bk st lb lcap key : Nat) (vs : Nat → Lv) (c : Cfg) (hb : c.b ≤ 59) (hkey : key < 18446744073709551616) (Fr : Nat → Prop) (J Jx : List (Fin (c.b + 1)) → World → Prop)
  (hFs : ¬ Fr bs) (hFk : ¬ Fr bk) (hFt : ¬ Fr st) (hFl : ¬ Fr lb)
  (hY : ∀ pre x W, J pre W → pre.length < c.b + 1 → YieldAt F (n - 1) Tryz.prog l (lvEnc c vs key x) W fun e W' =>
   (e = .returned (.bool true) ∧ J (pre ++ [x]) W' ∧ Upd Fr W W') ∨ (e = .returned (.bool false) ∧ Jx (pre ++ [x]) W'))
  (W : World) (hs : W.heap[bs]? = some (.cells #[.pointer (some ⟨st, 0, none⟩)] 41 (0, 0))) (hk : W.heap[bk]? = some (.cells #[.int .u64 key] 22 (0, 0)))
  (hd : W.heap[st]? = some (.cells #[.int .i64 c.b, .int .i64 c.r, .int .i64 c.wd, .int .i64 c.m, .int .u64 c.s, .slice (some ⟨lb, 0, none⟩) (c.b + 1) lcap] 128 (0, 0)))
  (hrow : W.ownsRow 0 130 1 (.slice (some ⟨lb, 0, none⟩) (c.b + 1) lcap) (c.b + 1) (lvRow c vs (c.b + 1))) (h0 : J [] W) :
  CallsIn F n Tryz.prog 185 #[.func (.yield l) #[] #[], .pointer (some ⟨bs, 0, none⟩), .pointer (some ⟨bk, 0, none⟩)] W fun e W' => (∃ v, e = .returned v) ∧
   ((∃ ys, ys = upto (Fin.ofNat (c.b + 1)) (c.b + 1) ∧ J ys W') ∨ (∃ pre, (∃ k, k ≤ c.b + 1 ∧ pre = upto (Fin.ofNat (c.b + 1)) k) ∧ Jx pre W')) := by
 have q0 : W.cell? ⟨bs, 0, none⟩ = some (.pointer (some ⟨st, 0, none⟩)) := by simp [World.cell?, hs]
 have q5 : W.cell? ⟨st, 5, none⟩ = some (.slice (some ⟨lb, 0, none⟩) (c.b + 1) lcap) := by simp [World.cell?, hd]
 have ls := lt_of_block hs
 have lk := lt_of_block hk
 have ll := ints_lt2 hrow
 refine callsIn_of_wp Tryz.func185 rfl hf ?_ hro
 simp only [Tryz.ntmps185, List.size_toArray, List.length_cons, List.length_nil, Nat.reduceAdd, Nat.reduceSub, Array.replicate_succ, Array.replicate_zero, List.push_toArray, List.append_toArray, List.nil_append, List.cons_append]
 gi_wp2
 gi_loopw [11] (fun i wr => ∃ k : Nat, k ≤ c.b + 1 ∧ i = .int .i64 k ∧ J (upto (Fin.ofNat (c.b + 1)) k) wr ∧ Upd Fr W wr) (fun i _ => c.b + 1 - (intOf i).toNat)
 case atStart => exact ⟨0, Nat.zero_le _, rfl, h0, Upd.refl _ _⟩
 case round =>
  obtain ⟨k, hk2, rfl, hJs, hU⟩ := hrel
  by_cases hlt : k < c.b + 1
  ·have hfv : (Fin.ofNat (c.b + 1) k).1 = k := Nat.mod_eq_of_lt hlt
   obtain ⟨fn, tmps, assign, body, hy, hR⟩ := hY _ (Fin.ofNat (c.b + 1) k) wr hJs (by rw [upto_length]; exact hlt)
   unfold lvEnc at hy
   rw [hfv] at hy
   have hcr : wr.cell? ⟨lb, k, none⟩ = some (.iface (c.lt k) (.pointer (some ⟨(vs k).a, 0, none⟩))) := by
    rw [World.cell?_of_block (w := W) (hU.block lb ll hFl)]
    exact (hrow.cellAt k (by omega)).trans (lvRow_at c vs (c.b + 1) k hlt)
   have hck : wr.cell? ⟨bk, 0, none⟩ = some (.int .u64 key) := by
    rw [World.cell?_of_block (w := W) (hU.block bk lk hFk)]
    simp [World.cell?, hk]
   gi_wp2
   refine hR.mono ?_
   rintro e W3 (⟨rfl, hJ3, hk3⟩ | ⟨rfl, hJx3⟩)
   ·gi_wp2
    go_roundw
    case rel => exact ⟨k + 1, by omega, by simp, by rw [upto_succ]; exact hJ3, hU.trans hk3⟩
    case measure => simp [intOf]; omega
   ·gi_wp2
    refine bodyPost_ret (results_none rfl _ _ _) rfl ?_
    exact ⟨⟨_, rfl⟩, .inr ⟨_, ⟨k + 1, by omega, (upto_succ _ _).symm⟩, hJx3⟩⟩
  ·obtain rfl : k = c.b + 1 := by omega
   gi_wp2
   go_end0
   exact ⟨⟨_, rfl⟩, .inl ⟨_, rfl, hJs⟩⟩
end Go.Proofs.YtbhppbeepmllaaaGreatDoor

namespace Go.Proofs.YtbhppbeepmllaaaGreatDoor
open Go.RowKit Go.Shelf
attribute [local go_sem] Oper.semAt_some

theorem stIter_any (st key : Nat) (w : World) :
  Calls Tryz.prog 153 #[.pointer (some ⟨st, 0, none⟩), .int .u64 key] w fun e w' => e = .returned (.func (.func 185) #[] #[.pointer (some ⟨w.heap.size, 0, none⟩), .pointer (some ⟨w.heap.size + 1, 0, none⟩)]) ∧
   w' = (w.alloc (.cells #[.pointer (some ⟨st, 0, none⟩)] 41)).alloc (.cells #[.int .u64 key] 22) := by
 go_enter Tryz.func153, Tryz.ntmps153
 go_wp2
 go_ret
 exact ⟨rfl, rfl⟩

def firstI (a b : Int) : Int := if a ≠ 0 then a else b
theorem first_any (g cap : Nat) (a b : Int) (w : World) (h0 : w.cell? ⟨g, 0, none⟩ = some (.int .i64 a)) (h1 : w.cell? ⟨g, 1, none⟩ = some (.int .i64 b)) :
  Calls Tryz.prog 154 #[.slice (some ⟨g, 0, none⟩) 2 cap] w fun e w' => e = .returned (.int .i64 (firstI a b)) ∧ w = w' := by
 unfold firstI
 by_cases ha : a = 0
 ·subst ha
  by_cases hb : b = 0
  ·subst hb
   go_enter Tryz.func154, Tryz.ntmps154
   go_wp2
   go_rounds 3
   go_ret
   exact ⟨by simp, rfl⟩
  ·have hd : decide (b = 0) = false := by simp [hb]
   have hd2 : (b == 0) = false := by simp [hb]
   go_enter Tryz.func154, Tryz.ntmps154
   go_wp2
   go_rounds 3
   go_ret
   exact ⟨by simp, rfl⟩
 ·have hd : decide (a = 0) = false := by simp [ha]
  have hd2 : (a == 0) = false := by simp [ha]
  rw [if_pos ha]
  go_enter Tryz.func154, Tryz.ntmps154
  go_wp2
  go_rounds 3
  go_ret
  exact ⟨rfl, rfl⟩
end Go.Proofs.YtbhppbeepmllaaaGreatDoor

namespace Go.Proofs.YtbhppbeepmllaaaGreatDoor
open Go.RowKit Go.Shelf
attribute [local go_sem] Oper.semAt_some

def Bd (M : Int) (l : List Int) : Prop := ∀ x ∈ l, -M ≤ x ∧ x ≤ M
theorem Bd.mono {M N : Int} {l : List Int} (h : Bd M l) (hMN : M ≤ N) : Bd N l := fun x hx => by have := h x hx; omega
theorem Bd.getD {M : Int} {l : List Int} (h : Bd M l) (hM : 0 ≤ M) (k : Nat) : -M ≤ l.getD k 0 ∧ l.getD k 0 ≤ M := by
 by_cases hc : k < l.length
 ·exact h _ (List.mem_of_getElem? (some_getD hc))
 ·rw [getD_past (by omega)]; omega
theorem Bd.set {M : Int} {l : List Int} (h : Bd M l) (k : Nat) (v : Int) (hv : -M ≤ v ∧ v ≤ M) : Bd M (l.set k v) := fun x hx => by
 rcases List.mem_or_eq_of_mem_set hx with h1 | rfl
 ·exact h x h1
 ·exact hv
theorem Bd.readL {M : Int} {cells : List Int} (h : Bd M cells) (hM : 0 ≤ M) (wd : Nat) (cols : List Int) (k : Nat) : Bd M (readL wd cells cols k) := by
 intro x hx
 unfold Go.Proofs.YtbhppbeepmllaaaGreatDoor.readL at hx
 simp only [List.mem_map] at hx
 obtain ⟨row, _, rfl⟩ := hx
 exact h.getD hM _
theorem Bd.kthI {M : Int} {l : List Int} (h : Bd M l) (hM : 0 ≤ M) (k : Nat) : -M ≤ kthI l k ∧ kthI l k ≤ M := by
 unfold Go.Proofs.YtbhppbeepmllaaaGreatDoor.kthI
 split
 ·rename_i hx
  exact h _ (kth_mem (Exists.choose_spec hx))
 ·omega
theorem Bd.putK {M : Int} {cells vals : List Int} (h : Bd M cells) (hv : Bd M vals) (hM : 0 ≤ M) (wd : Nat) (cols : List Int) (k : Nat) : Bd M (putK wd cells cols vals k) := by
 induction k with
 | zero => exact h
 | succ k ih => exact ih.set _ _ (hv.getD hM _)
theorem Bd.raiseK {M n : Int} {cells : List Int} (h : Bd M cells) (hn : -M ≤ n ∧ n ≤ M) (wd : Nat) (cols : List Int) (k : Nat) : Bd M (raiseK wd cells cols n k) := by
 induction k with
 | zero => exact h
 | succ k ih =>
  unfold Go.Proofs.YtbhppbeepmllaaaGreatDoor.raiseK
  split
  ·exact ih.set _ _ hn
  ·exact ih
theorem Bd.small {M : Int} {l : List Int} (h : Bd M l) (hM : M ≤ 1152921504606846976) : Small l := fun x hx => by have := h x hx; omega

noncomputable def Cfg.lvFed (c : Cfg) (l key : Nat) (d : Int) (cells : List Int) : List Int := if c.keys l ≤ c.wd then cells.set key (cells.getD key 0 + d) else c.fed l key d cells
theorem Bd.lvFed {M d D : Int} {cells : List Int} (h : Bd M cells) (hM : 0 ≤ M) (hd : -D ≤ d ∧ d ≤ D) (hD : 0 ≤ D) (c : Cfg) (l key : Nat) : Bd (M + D) (c.lvFed l key d cells) := by
 have h1 := h.mono (N := M + D) (by omega)
 unfold Cfg.lvFed
 split
 ·exact h1.set _ _ (by have := h.getD hM key; omega)
 ·unfold Cfg.fed
  split
  ·exact h1.raiseK (by have := (h.readL hM c.wd (c.cols l key) c.r).kthI hM 0; omega) _ _ _
  ·refine h1.putK ?_ (by omega) _ _ _
   intro x hx
   simp only [List.mem_map] at hx
   obtain ⟨y, hy, rfl⟩ := hx
   have := h.readL hM c.wd (c.cols l key) c.r y hy
   omega

theorem at_stops (F : Fence) (n : Nat) (hf : F.fn 185) (hro : F.round = none) (hn : 1 ≤ n) (bs bk st lb lcap key : Nat) (vs : Nat → Lv) (c : Cfg) (hb : c.b ≤ 59) (hkey : key < 18446744073709551616) (Fr : Nat → Prop)
  (hFs : ¬ Fr bs) (hFk : ¬ Fr bk) (hFt : ¬ Fr st) (hFl : ¬ Fr lb) (w : World) (hs : w.heap[bs]? = some (.cells #[.pointer (some ⟨st, 0, none⟩)] 41 (0, 0))) (hk : w.heap[bk]? = some (.cells #[.int .u64 key] 22 (0, 0)))
  (hd : w.heap[st]? = some (.cells #[.int .i64 c.b, .int .i64 c.r, .int .i64 c.wd, .int .i64 c.m, .int .u64 c.s, .slice (some ⟨lb, 0, none⟩) (c.b + 1) lcap] 128 (0, 0)))
  (hrow : w.ownsRow 0 130 1 (.slice (some ⟨lb, 0, none⟩) (c.b + 1) lcap) (c.b + 1) (lvRow c vs (c.b + 1))) :
  SeqStopsK F n Tryz.prog 185 #[.pointer (some ⟨bs, 0, none⟩), .pointer (some ⟨bk, 0, none⟩)] (lvEnc c vs key) (Upd Fr) (fun ys => ys = upto (Fin.ofNat (c.b + 1)) (c.b + 1))
   (fun pre => ∃ k, k ≤ c.b + 1 ∧ pre = upto (Fin.ofNat (c.b + 1)) k) (c.b + 1) w := fun l J Jx W hW _ _ hY h0 =>
 at1_in F n hf hro hn l bs bk st lb lcap key vs c hb hkey Fr J Jx hFs hFk hFt hFl hY W ((hW.block _ (lt_of_block hs)).trans hs) ((hW.block _ (lt_of_block hk)).trans hk) ((hW.block _ (lt_of_block hd)).trans hd) (own_below hrow hW) h0

theorem StackOk.keepB {w0 A B : World} {st lb lcap : Nat} {vs : Nat → Lv} {c : Cfg} {cs0 cs : Nat → List Int} (S0 : StackOk w0 st lb lcap vs c cs0) (S : StackOk A st lb lcap vs c cs) (h : ∀ k, k < w0.heap.size → B.heap[k]? = A.heap[k]?) : StackOk B st lb lcap vs c cs := by
 refine ⟨(h st S0.lt.1).trans S.hd, ?_, fun l hl => (S.lv l hl).keep (h _ (S0.lv l hl).lt.1) (h _ (S0.lv l hl).lt.2.1) (h _ (S0.lv l hl).lt.2.2), S.sep⟩
 refine ⟨S.row.1, ?_⟩
 rcases S.row.2 with h1 | ⟨g, cap, cur, h1, h2, h3, h4⟩
 ·exact .inl h1
 ·refine .inr ⟨g, cap, cur, h1, h2, ?_, h4⟩
  simp at h1
  obtain ⟨rfl, rfl⟩ := h1
  exact (h lb S0.lt.2).trans h3
theorem Upd.grown {F : Nat → Prop} {w A B : World} {row : Option Nat} (h : Upd F w A) (hg : A.grownBy B row) (hr : ∀ r, row = some r → w.heap.size ≤ r) : Upd F w B :=
 ⟨hg.os.trans h.os, hg.tape.trans h.tape, hg.output.trans h.output, Nat.le_trans h.size hg.size, fun k hk hn => (hg.block k (Nat.lt_of_lt_of_le hk h.size) (by intro e; have := hr k e.symm; omega)).trans (h.block k hk hn)⟩
theorem keepsO_below {W W' : World} (h : Below W.heap.size W W') : KeepsOthers W W' := KeepsOthers.of_grownBy (grown_of_below h none) (fun j o e _ => by cases e)
noncomputable def fedL (c : Cfg) (key : Nat) (d : Int) (cs : Nat → List Int) : List (Fin (c.b + 1)) → Nat → List Int
 | [] => cs
 | x :: xs => fedL c key d (setAt cs x.1 (c.lvFed x.1 (key / 2 ^ x.1) d (cs x.1))) xs
theorem fedL_snoc (c : Cfg) (key : Nat) (d : Int) (x : Fin (c.b + 1)) : ∀ (l : List (Fin (c.b + 1))) (cs : Nat → List Int), fedL c key d cs (l ++ [x]) = setAt (fedL c key d cs l) x.1 (c.lvFed x.1 (key / 2 ^ x.1) d (fedL c key d cs l x.1))
 | [], cs => rfl
 | y :: l, cs => by simp only [List.cons_append, fedL]; exact fedL_snoc c key d x l _
theorem fedL_all (c : Cfg) (key : Nat) (d : Int) (cs : Nat → List Int) : ∀ k, k ≤ c.b + 1 → fedL c key d cs (upto (Fin.ofNat (c.b + 1)) k) = fun l => if l < k then c.lvFed l (key / 2 ^ l) d (cs l) else cs l
 | 0, _ => by funext l; simp [upto, fedL]
 | k + 1, hk => by
  have ih := fedL_all c key d cs k (by omega)
  have e : (Fin.ofNat (c.b + 1) k).1 = k := Nat.mod_eq_of_lt (by omega)
  rw [upto_succ, fedL_snoc, ih, e]
  funext l
  unfold setAt
  by_cases h1 : l = k
  ·subst h1; simp
  ·by_cases h2 : l < k
   ·simp [h1, h2, Nat.lt_succ_of_lt h2]
   ·have : ¬ l < k + 1 := by omega
    simp [h1, h2, this]
theorem fedL_bd (c : Cfg) (key : Nat) (d M D : Int) (hM : 0 ≤ M) (hD : 0 ≤ D) (hd : -D ≤ d ∧ d ≤ D) : ∀ (l : List (Fin (c.b + 1))) (cs : Nat → List Int) (M : Int), 0 ≤ M → (∀ k, k ≤ c.b → Bd M (cs k)) → ∀ k, k ≤ c.b → Bd (M + D * l.length) (fedL c key d cs l k)
 | [], cs, M, _, h => by simpa [fedL] using h
 | x :: l, cs, M, hM, h => by
  intro k hk
  unfold fedL
  have := fedL_bd c key d M D hM hD hd l (setAt cs x.1 (c.lvFed x.1 (key / 2 ^ x.1) d (cs x.1))) (M + D) (by omega) (by
   intro j hj
   unfold setAt
   split
   ·exact (h x.1 (by omega)).lvFed hM hd hD c _ _
   ·exact (h j hj).mono (by omega)) k hk
  refine this.mono ?_
  simp only [List.length_cons]
  have e : ((l.length + 1 : Nat) : Int) = (l.length : Int) + 1 := by omega
  rw [e, Int.mul_add, Int.mul_one]; omega
end Go.Proofs.YtbhppbeepmllaaaGreatDoor

namespace Go.Proofs.YtbhppbeepmllaaaGreatDoor
open Go.RowKit

noncomputable def hitB (c : Cfg) (l k j : Nat) : Bool := if c.keys l ≤ c.wd then j == k else (List.range c.r).any fun row => j == cix c.wd row ((c.cols l k).getD row 0)
def sumIf (p : Nat → Bool) : List Nat → List Int → Int
 | k :: K, f :: F => (if p k then f else 0) + sumIf p K F
 | _, _ => 0
theorem sumIf_new (p : Nat → Bool) (k : Nat) : ∀ (K : List Nat) (F : List Int), K.length = F.length → sumIf p (K ++ [k]) (F ++ [0]) = sumIf p K F
 | [], [], _ => by simp [sumIf]
 | _ :: _, [], h => by simp at h
 | [], _ :: _, h => by simp at h
 | a :: K, f :: F, h => by simp [sumIf, sumIf_new p k K F (by simpa using h)]
theorem sumIf_set (p : Nat → Bool) (d : Int) : ∀ (K : List Nat) (F : List Int) (i k : Nat), K.length = F.length → K[i]? = some k → sumIf p K (F.set i (F.getD i 0 + d)) = sumIf p K F + if p k then d else 0
 | [], [], i, k, _, h => by simp at h
 | _ :: _, [], i, k, h, _ => by simp at h
 | [], _ :: _, i, k, h, _ => by simp at h
 | a :: K, f :: F, 0, k, h, hk => by
  simp at hk; subst hk
  simp [sumIf]; split <;> omega
 | a :: K, f :: F, i + 1, k, h, hk => by
  have ih := sumIf_set p d K F i k (by simpa using h) (by simpa using hk)
  simp only [List.set_cons_succ, List.getD_cons_succ, sumIf, ih]; omega
theorem sumIf_add (p : Nat → Bool) : ∀ (K : List Nat) (F G : List Int), F.length = G.length → sumIf p K (zipI (· + ·) F G) = sumIf p K F + sumIf p K G
 | [], F, G, _ => by cases F <;> cases G <;> simp [sumIf, zipI]
 | _ :: _, [], [], _ => by simp [sumIf, zipI]
 | _ :: _, _ :: _, [], h => by simp at h
 | _ :: _, [], _ :: _, h => by simp at h
 | a :: K, f :: F, g :: G, h => by
  have ih := sumIf_add p K F G (by simpa using h)
  simp only [zipI, List.zipWith_cons_cons, sumIf] at ih ⊢
  rw [ih]; split <;> omega
theorem sumIf_sub (p : Nat → Bool) : ∀ (K : List Nat) (F G : List Int), F.length = G.length → sumIf p K (zipI (· - ·) F G) = sumIf p K F - sumIf p K G
 | [], F, G, _ => by cases F <;> cases G <;> simp [sumIf, zipI]
 | _ :: _, [], [], _ => by simp [sumIf, zipI]
 | _ :: _, _ :: _, [], h => by simp at h
 | _ :: _, [], _ :: _, h => by simp at h
 | a :: K, f :: F, g :: G, h => by
  have ih := sumIf_sub p K F G (by simpa using h)
  simp only [zipI, List.zipWith_cons_cons, sumIf] at ih ⊢
  rw [ih]; split <;> omega
theorem sumIf_split (p q : Nat → Bool) : ∀ (K : List Nat) (F : List Int), (∀ k ∈ K, q k = true → p k = true) → sumIf p K F = sumIf q K F + sumIf (fun k => p k && !q k) K F
 | [], F, _ => by cases F <;> simp [sumIf]
 | _ :: _, [], _ => by simp [sumIf]
 | a :: K, f :: F, h => by
  have ih := sumIf_split p q K F (fun k hk => h k (by simp [hk]))
  have := h a (by simp)
  simp only [sumIf, ih]
  by_cases hq : q a = true
  ·have hp := this hq
   simp only [hq, hp, if_true, Bool.not_true, Bool.and_false, Bool.false_eq_true, if_false]; omega
  ·have hq' : q a = false := by simpa using hq
   by_cases hp : p a = true
   ·simp only [hq', hp, if_true, Bool.not_false, Bool.and_true, Bool.false_eq_true, if_false]; omega
   ·have hp' : p a = false := by simpa using hp
    simp only [hq', hp', Bool.not_false, Bool.and_true, Bool.false_eq_true, if_false]; omega
theorem sumIf_congr {p q : Nat → Bool} : ∀ (K : List Nat) (F : List Int), (∀ k ∈ K, p k = q k) → sumIf p K F = sumIf q K F
 | [], F, _ => by cases F <;> simp [sumIf]
 | _ :: _, [], _ => by simp [sumIf]
 | a :: K, f :: F, h => by
  have ih := sumIf_congr (p := p) (q := q) K F (fun k hk => h k (by simp [hk]))
  simp only [sumIf, ih, h a (by simp)]
theorem sumIf_nonneg (p : Nat → Bool) : ∀ (K : List Nat) (F : List Int), (∀ f ∈ F, 0 ≤ f) → 0 ≤ sumIf p K F
 | [], F, _ => by cases F <;> simp [sumIf]
 | _ :: _, [], _ => by simp [sumIf]
 | a :: K, f :: F, h => by
  have ih := sumIf_nonneg p K F (fun x hx => h x (by simp [hx]))
  have := h f (by simp)
  simp only [sumIf]; split <;> omega

theorem getD_set (l : List Int) (i j : Nat) (v : Int) : (l.set i v).getD j 0 = if i = j ∧ j < l.length then v else l.getD j 0 := by
 simp only [List.getD_eq_getElem?_getD, List.getElem?_set]
 by_cases h : i = j
 ·subst h
  by_cases h2 : i < l.length
  ·simp [h2]
  ·simp [h2, List.getElem?_eq_none (Nat.le_of_not_lt h2)]
 ·simp [h]
theorem putK_at (wd : Nat) (cells cols vals : List Int) (d : Int) (j : Nat) (hj : j < cells.length) : ∀ n, (∀ row, row < n → vals.getD row 0 = cells.getD (cix wd row (cols.getD row 0)) 0 + d) →
  (putK wd cells cols vals n).getD j 0 = cells.getD j 0 + if (List.range n).any (fun row => j == cix wd row (cols.getD row 0)) then d else 0
 | 0, _ => by simp [putK]
 | n + 1, h => by
  have ih := putK_at wd cells cols vals d j hj n (fun row hr => h row (by omega))
  have hn := h n (by omega)
  unfold putK
  rw [getD_set, putK_len, ih, hn]
  simp only [List.range_succ, List.any_append, List.any_cons, List.any_nil, Bool.or_false]
  by_cases e : cix wd n (cols.getD n 0) = j
  ·subst e; simp only [beq_self_eq_true, Bool.or_true, if_true, hj, and_self]
  ·have e' : (j == cix wd n (cols.getD n 0)) = false := by simp; exact fun x => e x.symm
   simp only [e, e', false_and, if_false, Bool.or_false]
theorem readL_at (wd : Nat) (cells cols : List Int) (r row : Nat) (h : row < r) : (readL wd cells cols r).getD row 0 = cells.getD (cix wd row (cols.getD row 0)) 0 := by
 simp [readL, List.getD_eq_getElem?_getD, List.getElem?_map, h]
theorem lvFed_at (c : Cfg) (l k : Nat) (d : Int) (cells : List Int) (hm : c.m ≠ 2) (j : Nat) (hj : j < cells.length) : (c.lvFed l k d cells).getD j 0 = cells.getD j 0 + if hitB c l k j then d else 0 := by
 unfold Cfg.lvFed hitB
 by_cases he : c.keys l ≤ c.wd
 ·rw [if_pos he, if_pos he, getD_set]
  by_cases e : k = j
  ·subst e; simp [hj]
  ·have e' : (j == k) = false := by simp; exact fun x => e x.symm
   simp [e, e']
 ·rw [if_neg he, if_neg he]
  unfold Cfg.fed
  rw [if_neg hm]
  refine putK_at c.wd cells _ _ d j hj c.r ?_
  intro row hr
  rw [← readL_at c.wd cells (c.cols l k) c.r row hr]
  simp [List.getD_eq_getElem?_getD, List.getElem?_map, readL, hr]
theorem lvFed_len (c : Cfg) (l k : Nat) (d : Int) (cells : List Int) : (c.lvFed l k d cells).length = cells.length := by
 unfold Cfg.lvFed Cfg.fed
 split
 ·simp
 ·split
  ·exact raiseK_len _ _ _ _ _
  ·exact putK_len _ _ _ _ _

def LinOk (c : Cfg) (cs : Nat → List Int) (K : List Nat) (F : List Int) : Prop :=
 ∀ l, l ≤ c.b → (cs l).length = c.size l ∧ ∀ j, j < c.size l → (cs l).getD j 0 = sumIf (fun k => hitB c l (k / 2 ^ l) j) K F
noncomputable def stFed (c : Cfg) (key : Nat) (d : Int) (cs : Nat → List Int) : Nat → List Int := fun l => if l ≤ c.b then c.lvFed l (key / 2 ^ l) d (cs l) else cs l
def stZip (c : Cfg) (f : Int → Int → Int) (xs ys : Nat → List Int) : Nat → List Int := fun l => if l ≤ c.b then zipI f (xs l) (ys l) else xs l
theorem LinOk.fed {c : Cfg} {cs : Nat → List Int} {K : List Nat} {F : List Int} (h : LinOk c cs K F) (hm : c.m ≠ 2) (hl : K.length = F.length) (i key : Nat) (hk : K[i]? = some key) (d : Int) : LinOk c (stFed c key d cs) K (F.set i (F.getD i 0 + d)) := by
 intro l hlb
 obtain ⟨h1, h2⟩ := h l hlb
 unfold stFed
 rw [if_pos hlb, lvFed_len]
 refine ⟨h1, fun j hj => ?_⟩
 rw [lvFed_at c l _ d _ hm j (by omega), h2 j hj, sumIf_set _ d K F i key hl hk]
theorem LinOk.new {c : Cfg} {cs : Nat → List Int} {K : List Nat} {F : List Int} (h : LinOk c cs K F) (hl : K.length = F.length) (key : Nat) : LinOk c cs (K ++ [key]) (F ++ [0]) := by
 intro l hlb
 obtain ⟨h1, h2⟩ := h l hlb
 refine ⟨h1, fun j hj => ?_⟩
 rw [h2 j hj, sumIf_new _ _ _ _ hl]
theorem zipI_at (f : Int → Int → Int) (xs ys : List Int) (j : Nat) (h1 : j < xs.length) (h2 : j < ys.length) : (zipI f xs ys).getD j 0 = f (xs.getD j 0) (ys.getD j 0) := by
 simp [zipI, List.getD_eq_getElem?_getD, List.getElem?_zipWith, h1, h2]
theorem zipI_len (f : Int → Int → Int) (xs ys : List Int) : (zipI f xs ys).length = min xs.length ys.length := by simp [zipI]
theorem LinOk.add {c : Cfg} {xs ys : Nat → List Int} {K : List Nat} {F G : List Int} (h : LinOk c xs K F) (g : LinOk c ys K G) (hl : F.length = G.length) : LinOk c (stZip c (· + ·) xs ys) K (zipI (· + ·) F G) := by
 intro l hlb
 obtain ⟨h1, h2⟩ := h l hlb
 obtain ⟨g1, g2⟩ := g l hlb
 unfold stZip
 rw [if_pos hlb, zipI_len]
 refine ⟨by omega, fun j hj => ?_⟩
 rw [zipI_at _ _ _ _ (by omega) (by omega), h2 j hj, g2 j hj, sumIf_add _ _ _ _ hl]
theorem LinOk.sub {c : Cfg} {xs ys : Nat → List Int} {K : List Nat} {F G : List Int} (h : LinOk c xs K F) (g : LinOk c ys K G) (hl : F.length = G.length) : LinOk c (stZip c (· - ·) xs ys) K (zipI (· - ·) F G) := by
 intro l hlb
 obtain ⟨h1, h2⟩ := h l hlb
 obtain ⟨g1, g2⟩ := g l hlb
 unfold stZip
 rw [if_pos hlb, zipI_len]
 refine ⟨by omega, fun j hj => ?_⟩
 rw [zipI_at _ _ _ _ (by omega) (by omega), h2 j hj, g2 j hj, sumIf_sub _ _ _ _ hl]
end Go.Proofs.YtbhppbeepmllaaaGreatDoor

namespace Go.Proofs.YtbhppbeepmllaaaGreatDoor
open Go.RowKit

theorem kth_exists : ∀ (n : Nat) (l : List Int) (k : Nat), l.length ≤ n → k < l.length → ∃ x, IsKth l k x
 | 0, l, k, h, hk => by omega
 | n + 1, [], k, h, hk => by simp at hk
 | n + 1, p :: l, k, h, hk => by
  have hs := len_split p (p :: l)
  have hp : 0 < sameN p (p :: l) := same_mem (by simp)
  by_cases h1 : k < (lessL p (p :: l)).length
  ·obtain ⟨x, hx⟩ := kth_exists n (lessL p (p :: l)) k (by omega) h1
   exact ⟨x, kth_less hx⟩
  ·by_cases h2 : k < (lessL p (p :: l)).length + sameN p (p :: l)
   ·exact ⟨p, by omega, h2⟩
   ·obtain ⟨x, hx⟩ := kth_exists n (moreL p (p :: l)) (k - ((lessL p (p :: l)).length + sameN p (p :: l))) (by omega) (by omega)
    have := kth_more hx
    rw [show (lessL p (p :: l)).length + sameN p (p :: l) + (k - ((lessL p (p :: l)).length + sameN p (p :: l))) = k by omega] at this
    exact ⟨x, this⟩
theorem kthI_is {l : List Int} {k : Nat} (hk : k < l.length) : IsKth l k (kthI l k) := by
 obtain ⟨x, hx⟩ := kth_exists l.length l k (Nat.le_refl _) hk
 rw [kthI_eq hx]; exact hx
theorem kthI_mem {l : List Int} {k : Nat} (hk : k < l.length) : kthI l k ∈ l := kth_mem (kthI_is hk)
theorem kthI_min {l : List Int} (hl : 0 < l.length) : ∀ y ∈ l, kthI l 0 ≤ y := by
 intro y hy
 have h := (kthI_is hl).1
 have h0 : lessL (kthI l 0) l = [] := List.length_eq_zero_iff.1 (by omega)
 unfold lessL at h0
 rw [List.filter_eq_nil_iff] at h0
 have := h0 y hy
 simp at this; exact this
theorem kthI_min_eq {l : List Int} {x : Int} (hx : x ∈ l) (h : ∀ y ∈ l, x ≤ y) : kthI l 0 = x := by
 have hl : 0 < l.length := List.length_pos_of_mem hx
 have h1 := kthI_min hl x hx
 have h2 := h _ (kthI_mem hl)
 omega
theorem less_count (x : Int) (l : List Int) (p : Int → Bool) (h : ∀ y ∈ l, p y = true → y < x) : (l.filter p).length ≤ (lessL x l).length := by
 unfold lessL
 rw [← List.countP_eq_length_filter, ← List.countP_eq_length_filter]
 apply List.countP_mono_left
 intro y hy hp
 simpa using h y hy hp
theorem more_count (x : Int) (l : List Int) (p : Int → Bool) (h : ∀ y ∈ l, p y = true → x < y) : (l.filter p).length + (lessL x l).length + sameN x l ≤ l.length := by
 have hs := len_split x l
 have : (l.filter p).length ≤ (moreL x l).length := by
  unfold moreL
  rw [← List.countP_eq_length_filter, ← List.countP_eq_length_filter]
  apply List.countP_mono_left
  intro y hy hp
  simpa using h y hy hp
 omega
theorem median_near (l : List Int) (lo hi : Int) (hl : 0 < l.length) (hn : l.length < 2 * (l.filter fun y => decide (lo ≤ y) && decide (y ≤ hi)).length) : lo ≤ kthI l ((l.length - 1) / 2) ∧ kthI l ((l.length - 1) / 2) ≤ hi := by
 obtain ⟨h1, h2⟩ := kthI_is (l := l) (k := (l.length - 1) / 2) (by omega)
 generalize hx : kthI l ((l.length - 1) / 2) = x at h1 h2 ⊢
 constructor
 ·apply Int.not_lt.1
  intro hlt
  have := more_count x l (fun y => decide (lo ≤ y) && decide (y ≤ hi)) (by intro y hy hp; simp at hp; omega)
  omega
 ·apply Int.not_lt.1
  intro hlt
  have := less_count x l (fun y => decide (lo ≤ y) && decide (y ≤ hi)) (by intro y hy hp; simp at hp; omega)
  omega

noncomputable def colEq (c : Cfg) (l row a b : Nat) : Bool := decide ((c.cols l a).getD row 0 = (c.cols l b).getD row 0)
theorem cix_inj {wd r1 r2 : Nat} {c1 c2 : Int} (h1 : 0 ≤ c1) (h2 : c1 < wd) (h3 : 0 ≤ c2) (h4 : c2 < wd) (h : cix wd r1 c1 = cix wd r2 c2) : r1 = r2 ∧ c1 = c2 := by
 unfold cix at h
 have e : (r1 : Int) * wd + c1 = r2 * wd + c2 := by
  have a1 : (0 : Int) ≤ (r1 : Int) * wd := Int.mul_nonneg (by omega) (by omega)
  have a2 : (0 : Int) ≤ (r2 : Int) * wd := Int.mul_nonneg (by omega) (by omega)
  omega
 have hr : (r1 : Int) = r2 := by
  have d1 : ((r1 : Int) * wd + c1) / wd = r1 := by
   rw [Int.add_comm, Int.add_mul_ediv_right _ _ (by omega), Int.ediv_eq_zero_of_lt h1 h2]; omega
  have d2 : ((r2 : Int) * wd + c2) / wd = r2 := by
   rw [Int.add_comm, Int.add_mul_ediv_right _ _ (by omega), Int.ediv_eq_zero_of_lt h3 h4]; omega
  rw [← d1, ← d2, e]
 have hr' : r1 = r2 := by omega
 subst hr'
 exact ⟨rfl, by omega⟩
theorem Cfg.col_lt {c : Cfg} (R : c.Ok) {l k row : Nat} (hl : l ≤ c.b) (hk : k < c.keys l) (hr : row < c.r) : 0 ≤ (c.cols l k).getD row 0 ∧ (c.cols l k).getD row 0 < c.wd :=
 (c.cols_ok R l k hl hk).at_ row _ (some_getD (by rw [c.cols_len]; exact hr))
theorem hitB_col (c : Cfg) (R : c.Ok) (l a b row : Nat) (hl : l ≤ c.b) (ha : a < c.keys l) (hb : b < c.keys l) (hr : row < c.r) (he : ¬ c.keys l ≤ c.wd) : hitB c l a (cix c.wd row ((c.cols l b).getD row 0)) = colEq c l row a b := by
 unfold hitB colEq
 rw [if_neg he, Bool.eq_iff_iff]
 simp only [List.any_eq_true, List.mem_range, beq_iff_eq, decide_eq_true_eq]
 have hb' := Cfg.col_lt R hl hb hr
 constructor
 ·rintro ⟨r2, hr2, h⟩
  have ha' := Cfg.col_lt R hl ha hr2
  obtain ⟨h1, h2⟩ := cix_inj hb'.1 hb'.2 ha'.1 ha'.2 h
  subst h1; exact h2.symm
 ·intro h
  exact ⟨row, hr, by rw [h]⟩
def massI (l idx : Nat) (K : List Nat) (F : List Int) : Int := sumIf (fun k => k / 2 ^ l == idx) K F
noncomputable def otherI (c : Cfg) (l idx row : Nat) (K : List Nat) (F : List Int) : Int := sumIf (fun k => colEq c l row (k / 2 ^ l) idx && !(k / 2 ^ l == idx)) K F
theorem prefix_lt (c : Cfg) {l k : Nat} (hl : l ≤ c.b) (hk : k < c.keys 0) : k / 2 ^ l < c.keys l := by
 unfold Cfg.keys at *
 apply Nat.div_lt_of_lt_mul
 rw [← Nat.pow_add]
 rw [show l + (c.b - l) = c.b - 0 by omega]; exact hk
theorem lin_read {c : Cfg} {cs : Nat → List Int} {K : List Nat} {F : List Int} (h : LinOk c cs K F) (R : c.Ok) (hK : ∀ k ∈ K, k < c.keys 0) (l idx row : Nat) (hl : l ≤ c.b) (hi : idx < c.keys l) (hr : row < c.r) (he : ¬ c.keys l ≤ c.wd) :
  (cs l).getD (cix c.wd row ((c.cols l idx).getD row 0)) 0 = massI l idx K F + otherI c l idx row K F := by
 have hc := Cfg.col_lt R hl hi hr
 have hj : cix c.wd row ((c.cols l idx).getD row 0) < c.size l := by
  unfold Cfg.size; rw [if_neg he]; exact cix_lt hr hc.1 hc.2
 rw [(h l hl).2 _ hj]
 have e1 : sumIf (fun k => hitB c l (k / 2 ^ l) (cix c.wd row ((c.cols l idx).getD row 0))) K F = sumIf (fun k => colEq c l row (k / 2 ^ l) idx) K F :=
  sumIf_congr K F (fun k hk => hitB_col c R l _ idx row hl (prefix_lt c hl (hK k hk)) hi hr he)
 rw [e1, sumIf_split _ (fun k => k / 2 ^ l == idx) K F ?_]
 ·rfl
 ·intro k hk h
  simp at h
  unfold colEq; rw [h]; simp
theorem lin_exact {c : Cfg} {cs : Nat → List Int} {K : List Nat} {F : List Int} (h : LinOk c cs K F) (l idx : Nat) (hl : l ≤ c.b) (hi : idx < c.keys l) (he : c.keys l ≤ c.wd) : (cs l).getD idx 0 = massI l idx K F := by
 rw [(h l hl).2 idx (by unfold Cfg.size; rw [if_pos he]; exact hi)]
 refine sumIf_congr K F (fun k hk => ?_)
 unfold hitB; rw [if_pos he]
 exact Bool.eq_iff_iff.2 (by simp; exact eq_comm)

noncomputable def stTold (c : Cfg) (cs : Nat → List Int) (l idx : Nat) : Int := if c.keys l ≤ c.wd then (cs l).getD idx 0 else c.told l idx (cs l)
theorem reads_eq {c : Cfg} {cs : Nat → List Int} {K : List Nat} {F : List Int} (h : LinOk c cs K F) (R : c.Ok) (hK : ∀ k ∈ K, k < c.keys 0) (l idx : Nat) (hl : l ≤ c.b) (hi : idx < c.keys l) (he : ¬ c.keys l ≤ c.wd) :
  readL c.wd (cs l) (c.cols l idx) c.r = (List.range c.r).map fun row => massI l idx K F + otherI c l idx row K F := by
 unfold readL
 apply List.map_congr_left
 intro row hr
 exact lin_read h R hK l idx row hl hi (by simpa using hr) he
theorem told_linear {c : Cfg} {cs : Nat → List Int} {K : List Nat} {F : List Int} (h : LinOk c cs K F) (R : c.Ok) (hm : c.m = 1) (hK : ∀ k ∈ K, k < c.keys 0) (l idx : Nat) (hl : l ≤ c.b) (hi : idx < c.keys l) (he : ¬ c.keys l ≤ c.wd) (o : Int)
  (ho : ∃ row, row < c.r ∧ o = otherI c l idx row K F) (hmin : ∀ row, row < c.r → o ≤ otherI c l idx row K F) : stTold c cs l idx = massI l idx K F + o := by
 unfold stTold Cfg.told
 rw [if_neg he, if_neg (by omega), reads_eq h R hK l idx hl hi he]
 apply kthI_min_eq
 ·obtain ⟨row, hr, rfl⟩ := ho
  simp only [List.mem_map, List.mem_range]
  exact ⟨row, hr, rfl⟩
 ·intro y hy
  simp only [List.mem_map, List.mem_range] at hy
  obtain ⟨row, hr, rfl⟩ := hy
  have := hmin row hr
  omega
theorem told_median {c : Cfg} {cs : Nat → List Int} {K : List Nat} {F : List Int} (h : LinOk c cs K F) (R : c.Ok) (hm : c.m = 3) (hK : ∀ k ∈ K, k < c.keys 0) (l idx : Nat) (hl : l ≤ c.b) (hi : idx < c.keys l) (he : ¬ c.keys l ≤ c.wd) (far : Int)
  (hn : c.r < 2 * ((List.range c.r).filter fun row => decide (-far ≤ otherI c l idx row K F) && decide (otherI c l idx row K F ≤ far)).length) :
  massI l idx K F - far ≤ stTold c cs l idx ∧ stTold c cs l idx ≤ massI l idx K F + far := by
 unfold stTold Cfg.told
 rw [if_neg he, if_pos hm, reads_eq h R hK l idx hl hi he]
 have hlen : ((List.range c.r).map fun row => massI l idx K F + otherI c l idx row K F).length = c.r := by simp
 have hr := R.r1
 have := median_near ((List.range c.r).map fun row => massI l idx K F + otherI c l idx row K F) (massI l idx K F - far) (massI l idx K F + far) (by omega) (by
  rw [hlen, List.filter_map, List.length_map]
  refine Nat.lt_of_lt_of_le hn (Nat.mul_le_mul_left 2 (Nat.le_of_eq ?_))
  congr 1
  apply List.filter_congr
  intro row _
  simp only [Function.comp]
  rw [Bool.eq_iff_iff]; simp; omega)
 rw [hlen] at this
 exact this
end Go.Proofs.YtbhppbeepmllaaaGreatDoor

namespace Go.Proofs.YtbhppbeepmllaaaGreatDoor
open Go.RowKit

theorem raiseK_at (wd : Nat) (cells cols : List Int) (n : Int) (j : Nat) (hj : j < cells.length) : ∀ k,
  (raiseK wd cells cols n k).getD j 0 = if (List.range k).any (fun row => j == cix wd row (cols.getD row 0)) then max (cells.getD j 0) n else cells.getD j 0
 | 0 => by simp [raiseK]
 | k + 1 => by
  have ih := raiseK_at wd cells cols n j hj k
  unfold raiseK
  simp only [List.range_succ, List.any_append, List.any_cons, List.any_nil, Bool.or_false]
  generalize hix : cix wd k (cols.getD k 0) = ix
  by_cases e : ix = j
  ·subst e
   by_cases h : (raiseK wd cells cols n k).getD ix 0 < n
   ·rw [if_pos h, getD_set, raiseK_len]
    rw [ih] at h
    simp only [hj, and_self, if_true, beq_self_eq_true, Bool.or_true]
    split at h <;> omega
   ·rw [if_neg h, ih]
    rw [ih] at h
    simp only [beq_self_eq_true, Bool.or_true, if_true]
    split at h
    ·rename_i h1; rw [if_pos h1]
    ·rename_i h1; rw [if_neg h1]; omega
  ·have e' : (j == ix) = false := by simp; exact fun x => e x.symm
   simp only [e', Bool.or_false]
   split
   ·rw [getD_set, if_neg (fun x => e x.1), ih]
   ·exact ih

structure ConsOk (c : Cfg) (xs : Nat → List Int) (K : List Nat) (F : List Int) : Prop where
 len : ∀ l, l ≤ c.b → (xs l).length = c.size l
 exact_ : ∀ l, l ≤ c.b → c.keys l ≤ c.wd → ∀ j, j < c.keys l → (xs l).getD j 0 = massI l j K F
 low : ∀ l, l ≤ c.b → ¬ c.keys l ≤ c.wd → ∀ idx row, idx < c.keys l → row < c.r → massI l idx K F ≤ (xs l).getD (cix c.wd row ((c.cols l idx).getD row 0)) 0
def StLe (c : Cfg) (xs ys : Nat → List Int) : Prop := ∀ l, l ≤ c.b → ∀ j, j < c.size l → (xs l).getD j 0 ≤ (ys l).getD j 0

theorem mass_new (l idx : Nat) (K : List Nat) (F : List Int) (hl : K.length = F.length) (key : Nat) : massI l idx (K ++ [key]) (F ++ [0]) = massI l idx K F := sumIf_new _ _ _ _ hl
theorem ConsOk.new {c : Cfg} {xs : Nat → List Int} {K : List Nat} {F : List Int} (h : ConsOk c xs K F) (hl : K.length = F.length) (key : Nat) : ConsOk c xs (K ++ [key]) (F ++ [0]) :=
 ⟨h.len, fun l h1 h2 j h3 => by rw [mass_new _ _ _ _ hl]; exact h.exact_ l h1 h2 j h3, fun l h1 h2 i r h3 h4 => by rw [mass_new _ _ _ _ hl]; exact h.low l h1 h2 i r h3 h4⟩
theorem fed_exact (c : Cfg) (l k : Nat) (d : Int) (cells : List Int) (he : c.keys l ≤ c.wd) (j : Nat) (hj : j < cells.length) : (c.lvFed l k d cells).getD j 0 = cells.getD j 0 + if j = k then d else 0 := by
 unfold Cfg.lvFed
 rw [if_pos he, getD_set]
 by_cases e : k = j
 ·subst e; simp [hj]
 ·have e' : ¬ j = k := fun x => e x.symm
  simp [e, e']
theorem fed_cons (c : Cfg) (l k : Nat) (d : Int) (cells : List Int) (hm : c.m = 2) (he : ¬ c.keys l ≤ c.wd) (j : Nat) (hj : j < cells.length) :
  (c.lvFed l k d cells).getD j 0 = if hitB c l k j then max (cells.getD j 0) (kthI (readL c.wd cells (c.cols l k) c.r) 0 + d) else cells.getD j 0 := by
 unfold Cfg.lvFed hitB Cfg.fed
 rw [if_neg he, if_pos hm, if_neg he]
 exact raiseK_at _ _ _ _ j hj _
theorem read_mem (wd : Nat) (cells cols : List Int) (r row : Nat) (h : row < r) : cells.getD (cix wd row (cols.getD row 0)) 0 ∈ readL wd cells cols r := by
 unfold readL
 simp only [List.mem_map, List.mem_range]
 exact ⟨row, h, rfl⟩
theorem hit_self (c : Cfg) (l k row : Nat) (he : ¬ c.keys l ≤ c.wd) (hr : row < c.r) : hitB c l k (cix c.wd row ((c.cols l k).getD row 0)) = true := by
 unfold hitB
 rw [if_neg he]
 simp only [List.any_eq_true, List.mem_range, beq_iff_eq]
 exact ⟨row, hr, rfl⟩
theorem ConsOk.fed {c : Cfg} {xs : Nat → List Int} {K : List Nat} {F : List Int} (h : ConsOk c xs K F) (R : c.Ok) (hm : c.m = 2) (hl : K.length = F.length) (i key : Nat) (hk : K[i]? = some key) (hkb : key < c.keys 0) (d : Int) (hd : 0 ≤ d) :
  ConsOk c (stFed c key d xs) K (F.set i (F.getD i 0 + d)) := by
 have hr1 := R.r1
 refine ⟨?_, ?_, ?_⟩
 ·intro l hlb
  unfold stFed; rw [if_pos hlb, lvFed_len]; exact h.len l hlb
 ·intro l hlb he j hj
  have hsz : c.size l = c.keys l := by unfold Cfg.size; rw [if_pos he]
  unfold stFed; rw [if_pos hlb, fed_exact c l _ d _ he j (by rw [h.len l hlb, hsz]; exact hj), h.exact_ l hlb he j hj]
  unfold massI
  rw [sumIf_set _ d K F i key hl hk]
  by_cases e : j = key / 2 ^ l
  ·subst e; simp
  ·have : (key / 2 ^ l == j) = false := by simp; exact fun x => e x.symm
   simp [e, this]
 ·intro l hlb he idx row hidx hrow
  have hc := Cfg.col_lt R hlb hidx hrow
  have hj : cix c.wd row ((c.cols l idx).getD row 0) < (xs l).length := by
   rw [h.len l hlb]; unfold Cfg.size; rw [if_neg he]; exact cix_lt hrow hc.1 hc.2
  unfold stFed; rw [if_pos hlb, fed_cons c l _ d _ hm he _ hj]
  have hlow := h.low l hlb he idx row hidx hrow
  unfold massI at hlow ⊢
  rw [sumIf_set _ d K F i key hl hk]
  by_cases e : key / 2 ^ l = idx
  ·subst e
   rw [hit_self c l _ row he hrow]
   have hmem := kthI_mem (l := readL c.wd (xs l) (c.cols l (key / 2 ^ l)) c.r) (k := 0) (by rw [readL_len]; omega)
   obtain ⟨r2, hr2, hr3⟩ : ∃ r2, r2 < c.r ∧ (xs l).getD (cix c.wd r2 ((c.cols l (key / 2 ^ l)).getD r2 0)) 0 = kthI (readL c.wd (xs l) (c.cols l (key / 2 ^ l)) c.r) 0 := by
    unfold readL at hmem
    simp only [List.mem_map, List.mem_range] at hmem
    obtain ⟨r2, h1, h2⟩ := hmem
    exact ⟨r2, h1, h2⟩
   have := h.low l hlb he (key / 2 ^ l) r2 hidx hr2
   unfold massI at this
   simp only [beq_self_eq_true, if_true]
   omega
  ·have e' : (key / 2 ^ l == idx) = false := by simp; exact e
   simp only [e', Bool.false_eq_true, if_false]
   split <;> omega
theorem StLe.fed {c : Cfg} {xs ys : Nat → List Int} (h : StLe c xs ys) (c1 : Cfg) (hb : c1.b = c.b) (hr : c1.r = c.r) (hw : c1.wd = c.wd) (hs : c1.s = c.s) (hm1 : c1.m ≠ 2) (R : c.Ok) (hm : c.m = 2)
  (hx : ∀ l, l ≤ c.b → (xs l).length = c.size l) (hy : ∀ l, l ≤ c.b → (ys l).length = c.size l) (key : Nat) (d : Int) (hd : 0 ≤ d) : StLe c (stFed c key d xs) (stFed c1 key d ys) := by
 have hr1 := R.r1
 have hk1 : ∀ l, c1.keys l = c.keys l := fun l => by unfold Cfg.keys; rw [hb]
 have hc1 : ∀ l k, c1.cols l k = c.cols l k := fun l k => by unfold Cfg.cols; rw [hr, hw, hs]
 have hh1 : ∀ l k j, hitB c1 l k j = hitB c l k j := fun l k j => by unfold hitB; simp only [hk1, hw, hr, hc1]
 intro l hlb j hj
 have h1 := h l hlb j hj
 unfold stFed
 rw [if_pos hlb, if_pos (by omega), lvFed_at c1 l _ d _ hm1 j (by rw [hy l hlb]; exact hj), hh1]
 by_cases he : c.keys l ≤ c.wd
 ·rw [fed_exact c l _ d _ he j (by rw [hx l hlb]; exact hj)]
  unfold hitB; rw [if_pos he]
  by_cases e : j = key / 2 ^ l
  ·have e' : (j == key / 2 ^ l) = true := by simpa using e
   rw [if_pos e, if_pos e']; omega
  ·have e' : ¬ (j == key / 2 ^ l) = true := by simpa using e
   rw [if_neg e, if_neg e']; omega
 ·rw [fed_cons c l _ d _ hm he j (by rw [hx l hlb]; exact hj)]
  by_cases hh : hitB c l (key / 2 ^ l) j = true
  ·rw [if_pos hh, if_pos hh]
   have hh' := hh
   unfold hitB at hh'
   rw [if_neg he] at hh'
   simp only [List.any_eq_true, List.mem_range, beq_iff_eq] at hh'
   obtain ⟨row, hrow, e⟩ := hh'
   have hmin := kthI_min (l := readL c.wd (xs l) (c.cols l (key / 2 ^ l)) c.r) (by rw [readL_len]; omega) _ (read_mem c.wd (xs l) (c.cols l (key / 2 ^ l)) c.r row hrow)
   rw [← e] at hmin
   omega
  ·rw [if_neg hh, if_neg hh]; omega
theorem StLe.add {c : Cfg} {xs ys us vs : Nat → List Int} (h : StLe c xs us) (g : StLe c ys vs) (c1 : Cfg) (hb : c1.b = c.b) (h1 : ∀ l, l ≤ c.b → (xs l).length = c.size l) (h2 : ∀ l, l ≤ c.b → (ys l).length = c.size l) (h3 : ∀ l, l ≤ c.b → (us l).length = c.size l) (h4 : ∀ l, l ≤ c.b → (vs l).length = c.size l) :
  StLe c (stZip c (· + ·) xs ys) (stZip c1 (· + ·) us vs) := by
 intro l hlb j hj
 have a := h l hlb j hj
 have b := g l hlb j hj
 unfold stZip
 rw [if_pos hlb, if_pos (by omega), zipI_at _ _ _ _ (by rw [h1 l hlb]; exact hj) (by rw [h2 l hlb]; exact hj), zipI_at _ _ _ _ (by rw [h3 l hlb]; exact hj) (by rw [h4 l hlb]; exact hj)]
 omega
theorem mass_add (l idx : Nat) (K : List Nat) (F G : List Int) (h : F.length = G.length) : massI l idx K (zipI (· + ·) F G) = massI l idx K F + massI l idx K G := sumIf_add _ _ _ _ h
theorem ConsOk.add {c : Cfg} {xs ys : Nat → List Int} {K : List Nat} {F G : List Int} (h : ConsOk c xs K F) (g : ConsOk c ys K G) (R : c.Ok) (hl : F.length = G.length) : ConsOk c (stZip c (· + ·) xs ys) K (zipI (· + ·) F G) := by
 refine ⟨?_, ?_, ?_⟩
 ·intro l hlb
  unfold stZip; rw [if_pos hlb, zipI_len, h.len l hlb, g.len l hlb]; omega
 ·intro l hlb he j hj
  have hsz : c.size l = c.keys l := by unfold Cfg.size; rw [if_pos he]
  unfold stZip; rw [if_pos hlb, zipI_at _ _ _ _ (by rw [h.len l hlb, hsz]; exact hj) (by rw [g.len l hlb, hsz]; exact hj), h.exact_ l hlb he j hj, g.exact_ l hlb he j hj, mass_add _ _ _ _ _ hl]
 ·intro l hlb he idx row hidx hrow
  have hc := Cfg.col_lt R hlb hidx hrow
  have hj : cix c.wd row ((c.cols l idx).getD row 0) < c.size l := by unfold Cfg.size; rw [if_neg he]; exact cix_lt hrow hc.1 hc.2
  have a := h.low l hlb he idx row hidx hrow
  have b := g.low l hlb he idx row hidx hrow
  unfold stZip; rw [if_pos hlb, zipI_at _ _ _ _ (by rw [h.len l hlb]; exact hj) (by rw [g.len l hlb]; exact hj), mass_add _ _ _ _ _ hl]
  omega
theorem ConsOk.told {c : Cfg} {xs : Nat → List Int} {K : List Nat} {F : List Int} (h : ConsOk c xs K F) (R : c.Ok) (hm : c.m = 2 ∨ c.m = 1) (l idx : Nat) (hlb : l ≤ c.b) (hi : idx < c.keys l) : massI l idx K F ≤ stTold c xs l idx := by
 have hr1 := R.r1
 unfold stTold
 by_cases he : c.keys l ≤ c.wd
 ·rw [if_pos he, h.exact_ l hlb he idx hi]; omega
 ·rw [if_neg he]
  unfold Cfg.told
  rw [if_neg (by omega)]
  have hmem := kthI_mem (l := readL c.wd (xs l) (c.cols l idx) c.r) (k := 0) (by rw [readL_len]; omega)
  have hmem2 := hmem
  unfold readL at hmem2
  simp only [List.mem_map, List.mem_range] at hmem2
  obtain ⟨row, hrow, e⟩ := hmem2
  have := h.low l hlb he idx row hi hrow
  unfold readL
  omega
theorem StLe.told {c : Cfg} {xs ys : Nat → List Int} (h : StLe c xs ys) (c1 : Cfg) (hb : c1.b = c.b) (hr : c1.r = c.r) (hw : c1.wd = c.wd) (hs : c1.s = c.s) (hm1 : c1.m = 1) (R : c.Ok) (hm : c.m = 2) (l idx : Nat) (hlb : l ≤ c.b) (hi : idx < c.keys l) : stTold c xs l idx ≤ stTold c1 ys l idx := by
 have hr1 := R.r1
 have hk1 : c1.keys l = c.keys l := by unfold Cfg.keys; rw [hb]
 have hc1 : c1.cols l idx = c.cols l idx := by unfold Cfg.cols; rw [hr, hw, hs]
 unfold stTold
 rw [hk1, hw]
 by_cases he : c.keys l ≤ c.wd
 ·rw [if_pos he, if_pos he]; exact h l hlb idx (by unfold Cfg.size; rw [if_pos he]; exact hi)
 ·rw [if_neg he, if_neg he]
  unfold Cfg.told
  rw [if_neg (by omega), if_neg (by omega), hc1, hr, hw]
  have hmem := kthI_mem (l := readL c.wd (ys l) (c.cols l idx) c.r) (k := 0) (by rw [readL_len]; omega)
  have hmem2 := hmem
  unfold readL at hmem2
  simp only [List.mem_map, List.mem_range] at hmem2
  obtain ⟨row, hrow, e⟩ := hmem2
  have hc := Cfg.col_lt R hlb hi hrow
  have hj : cix c.wd row ((c.cols l idx).getD row 0) < c.size l := by unfold Cfg.size; rw [if_neg he]; exact cix_lt hrow hc.1 hc.2
  have h1 := h l hlb _ hj
  have h2 := kthI_min (l := readL c.wd (xs l) (c.cols l idx) c.r) (by rw [readL_len]; omega) _ (read_mem c.wd (xs l) (c.cols l idx) c.r row hrow)
  unfold readL at h2 ⊢
  omega
theorem LinOk.cons {c : Cfg} {xs : Nat → List Int} {K : List Nat} {F : List Int} (h : LinOk c xs K F) (R : c.Ok) (hK : ∀ k ∈ K, k < c.keys 0) (hF : ∀ f ∈ F, 0 ≤ f) : ConsOk c xs K F := by
 refine ⟨fun l hl => (h l hl).1, fun l hl he j hj => lin_exact h l j hl hj he, ?_⟩
 intro l hl he idx row hi hr
 rw [lin_read h R hK l idx row hl hi hr he]
 have := sumIf_nonneg (fun k => colEq c l row (k / 2 ^ l) idx && !(k / 2 ^ l == idx)) K F hF
 unfold otherI; omega
end Go.Proofs.YtbhppbeepmllaaaGreatDoor
