import Derived.Test.YtbhppbeepmllaaaGreatDoorMdb9ab3e7
import Derived.Test.YtbhppbeepmllaaaGreatDoorMce0bf2f6
set_option linter.unusedVariables false
set_option linter.unusedSimpArgs false
set_option maxRecDepth 100000
set_option maxHeartbeats 2000000
namespace Go.Proofs.YtbhppbeepmllaaaGreatDoor
open Go.RowKit

def plK (K : List Nat) (key : Nat) : List Nat := if key ∈ K then K else K ++ [key]
def plF (K : List Nat) (key : Nat) (F : Nat → List Int) : Nat → List Int := fun h => if key ∈ K then F h else F h ++ [0]
def addF (K : List Nat) (F : Nat → List Int) (h key : Nat) (d : Int) : Nat → List Int := fun g =>
 if g = h then (plF K key F h).set ((plK K key).idxOf key) ((plF K key F h).getD ((plK K key).idxOf key) 0 + d) else plF K key F g
noncomputable def addC (c : Cfg) (cs : Nat → Nat → List Int) (h key : Nat) (d : Int) : Nat → Nat → List Int := fun k => if k = h + 1 then stFed c key d (cs (h + 1)) else cs k
def pairF (f : Int → Int → Int) (F : Nat → List Int) (h o : Nat) : Nat → List Int := fun g => if g = h then zipI f (F h) (F o) else F g
def pairC (c : Cfg) (f : Int → Int → Int) (cs : Nat → Nat → List Int) (h o : Nat) : Nat → Nat → List Int := fun k => if k = h + 1 then stZip c f (cs (h + 1)) (cs (o + 1)) else cs k
structure AbOk (c : Cfg) (M : Int) (N : Nat) (K : List Nat) (F : Nat → List Int) (cs : Nat → Nat → List Int) : Prop where
 keys : ∀ k ∈ K, k < c.keys 0
 nd : K.Nodup
 len : ∀ h, h < 3 → (F h).length = K.length
 few : K.length ≤ N
 fb : ∀ h, h < 3 → Bd M (F h)
 cb : ∀ h, h < 3 → ∀ l, l ≤ c.b → Bd M (cs (h + 1) l)
 lin : c.m ≠ 2 → ∀ h, h < 3 → LinOk c (cs (h + 1)) K (F h)
 cons : c.m = 2 → ∀ h, h < 3 → ConsOk c (cs (h + 1)) K (F h) ∧ ∀ x ∈ F h, 0 ≤ x
theorem plK_mem (K : List Nat) (key : Nat) : key ∈ plK K key := by
 unfold plK; split
 ·assumption
 ·simp
theorem plK_at (K : List Nat) (key : Nat) : (plK K key)[(plK K key).idxOf key]? = some key := by
 have h := plK_mem K key
 have hl := List.idxOf_lt_length_of_mem h
 rw [List.getElem?_eq_getElem hl, List.getElem_idxOf hl]
theorem plK_nd {K : List Nat} (h : K.Nodup) (key : Nat) : (plK K key).Nodup := by
 unfold plK; split
 ·exact h
 ·next hk =>
  rw [List.nodup_append]
  refine ⟨h, by simp, fun a ha b hb e => ?_⟩
  simp at hb
  exact hk (hb ▸ e ▸ ha)
theorem idx_of {K : List Nat} (h : K.Nodup) {i key : Nat} (hi : K[i]? = some key) : i = K.idxOf key := by
 obtain ⟨hl, e⟩ := List.getElem?_eq_some_iff.1 hi
 subst e
 exact (List.Nodup.idxOf_getElem h i hl).symm
variable {c : Cfg} {M : Int} {N : Nat} {K : List Nat} {F : Nat → List Int} {cs : Nat → Nat → List Int}
theorem AbOk.place (A : AbOk c M N K F cs) (hM : 0 ≤ M) {key : Nat} (hk : key < c.keys 0) : AbOk c M (N + 1) (plK K key) (plF K key F) cs := by
 by_cases hm : key ∈ K
 ·have e1 : plK K key = K := by unfold plK; rw [if_pos hm]
  have e2 : plF K key F = F := by unfold plF; funext h; rw [if_pos hm]
  rw [e1, e2]
  exact ⟨A.keys, A.nd, A.len, Nat.le_succ_of_le A.few, A.fb, A.cb, A.lin, A.cons⟩
 ·have e1 : plK K key = K ++ [key] := by unfold plK; rw [if_neg hm]
  have e2 : plF K key F = fun h => F h ++ [0] := by unfold plF; funext h; rw [if_neg hm]
  have nd := plK_nd A.nd key
  rw [e1] at nd
  rw [e1, e2]
  refine ⟨fun k hkm => ?_, nd, fun h h3 => by simp [A.len h h3], by have := A.few; simp; omega, fun h h3 x hx => ?_, A.cb, fun h1 h h3 => (A.lin h1 h h3).new (A.len h h3).symm key, fun h1 h h3 => ?_⟩
  ·rcases List.mem_append.1 hkm with h | h
   ·exact A.keys k h
   ·simp at h; rw [h]; exact hk
  ·rcases List.mem_append.1 hx with h' | h'
   ·exact A.fb h h3 x h'
   ·simp at h'; omega
  ·obtain ⟨a, b⟩ := A.cons h1 h h3
   refine ⟨a.new (A.len h h3).symm key, fun x hx => ?_⟩
   rcases List.mem_append.1 hx with h' | h'
   ·exact b x h'
   ·simp at h'; omega
theorem set_mem {l : List Int} {i : Nat} {v x : Int} (h : x ∈ l.set i v) : x = v ∨ x ∈ l := by
 rcases List.mem_or_eq_of_mem_set h with h | h
 ·exact .inr h
 ·exact .inl h
theorem getD_bd {M : Int} {l : List Int} (h : Bd M l) (hM : 0 ≤ M) (i : Nat) : -M ≤ l.getD i 0 ∧ l.getD i 0 ≤ M := h.getD hM i
theorem getD_nonneg {l : List Int} (h : ∀ x ∈ l, 0 ≤ x) (i : Nat) : 0 ≤ l.getD i 0 := by
 rw [List.getD_eq_getElem?_getD]
 by_cases hi : i < l.length
 ·rw [List.getElem?_eq_getElem hi]; exact h _ (List.getElem_mem hi)
 ·rw [List.getElem?_eq_none (by omega)]; decide
theorem AbOk.add (A : AbOk c M N K F cs) (R : c.Ok) (hM : 1048576 ≤ M) {h key : Nat} (h3 : h < 3) (hk : key < c.keys 0) {d : Int} (hd : -1048576 ≤ d ∧ d ≤ 1048576) (hm : c.m = 2 → 0 ≤ d) :
  AbOk c (2 * M) (N + 1) (plK K key) (addF K F h key d) (addC c cs h key d) := by
 have B := A.place (by omega) hk
 have hat := plK_at K key
 obtain ⟨i, hi⟩ : ∃ i, (plK K key).idxOf key = i := ⟨_, rfl⟩
 rw [hi] at hat
 have eF : addF K F h key d = fun g => if g = h then (plF K key F h).set i ((plF K key F h).getD i 0 + d) else plF K key F g := by unfold addF; rw [hi]
 rw [eF]
 obtain ⟨K', hK'⟩ : ∃ K', plK K key = K' := ⟨_, rfl⟩
 obtain ⟨G, hG⟩ : ∃ G, plF K key F = G := ⟨_, rfl⟩
 rw [hK'] at B hat ⊢
 rw [hG] at B ⊢
 refine ⟨B.keys, B.nd, fun g g3 => ?_, B.few, fun g g3 x hx => ?_, fun g g3 l hl => ?_, fun h1 g g3 => ?_, fun h1 g g3 => ?_⟩
 ·by_cases e : g = h
  ·simp only [if_pos e, List.length_set]; exact B.len h h3
  ·simp only [if_neg e]; exact B.len g g3
 ·by_cases e : g = h
  ·simp only [if_pos e] at hx
   have hb := (B.fb h h3).getD (by omega) i
   rcases set_mem hx with h' | h'
   ·subst h'; omega
   ·have := B.fb h h3 x h'; omega
  ·simp only [if_neg e] at hx
   have := B.fb g g3 x hx; omega
 ·by_cases e : g = h
  ·subst e
   simp only [addC, if_true, stFed, if_pos hl]
   exact ((B.cb g g3 l hl).lvFed (by omega) (D := 1048576) (by omega) (by decide) c l _).mono (by omega)
  ·simp only [addC, if_neg (show ¬ g + 1 = h + 1 by omega)]
   exact (B.cb g g3 l hl).mono (by omega)
 ·by_cases e : g = h
  ·subst e
   simp only [addC, if_true]
   exact (B.lin h1 g g3).fed h1 (B.len g g3).symm i key hat d
  ·simp only [addC, if_neg (show ¬ g + 1 = h + 1 by omega), if_neg e]
   exact B.lin h1 g g3
 ·by_cases e : g = h
  ·subst e
   obtain ⟨a, b⟩ := B.cons h1 g g3
   simp only [addC, if_true]
   refine ⟨a.fed R h1 (B.len g g3).symm i key hat hk d (hm h1), fun x hx => ?_⟩
   rcases set_mem hx with h' | h'
   ·subst h'
    have := getD_nonneg b i
    have := hm h1
    omega
   ·exact b x h'
  ·simp only [addC, if_neg (show ¬ g + 1 = h + 1 by omega), if_neg e]
   exact B.cons h1 g g3
theorem zip_mem {f : Int → Int → Int} : ∀ {a b : List Int} {x : Int}, x ∈ zipI f a b → ∃ u ∈ a, ∃ v ∈ b, x = f u v
 | a, b, x, h => by
  unfold zipI at h
  obtain ⟨i, hi, e⟩ := List.mem_iff_getElem.1 h
  simp only [List.getElem_zipWith] at e
  exact ⟨_, List.getElem_mem (by simp at hi; omega), _, List.getElem_mem (by simp at hi; omega), e.symm⟩
theorem Bd.zip {M : Int} {f : Int → Int → Int} {a b : List Int} (ha : Bd M a) (hb : Bd M b) (hf : ∀ u v, -M ≤ u ∧ u ≤ M → -M ≤ v ∧ v ≤ M → -(2 * M) ≤ f u v ∧ f u v ≤ 2 * M) : Bd (2 * M) (zipI f a b) := by
 intro x hx
 obtain ⟨u, hu, v, hv, rfl⟩ := zip_mem hx
 exact hf u v (ha u hu) (hb v hv)
theorem AbOk.merge (A : AbOk c M N K F cs) (R : c.Ok) (hM : 0 ≤ M) {h o : Nat} (h3 : h < 3) (o3 : o < 3) : AbOk c (2 * M) (N + 1) K (pairF (· + ·) F h o) (pairC c (· + ·) cs h o) := by
 refine ⟨A.keys, A.nd, fun g g3 => ?_, Nat.le_succ_of_le A.few, fun g g3 => ?_, fun g g3 l hl => ?_, fun h1 g g3 => ?_, fun h1 g g3 => ?_⟩
 ·by_cases e : g = h
  ·simp only [pairF, if_pos e, zipI_len, A.len h h3, A.len o o3, Nat.min_self]
  ·simp only [pairF, if_neg e]; exact A.len g g3
 ·by_cases e : g = h
  ·simp only [pairF, if_pos e]
   exact (A.fb h h3).zip (A.fb o o3) (fun u v hu hv => by omega)
  ·simp only [pairF, if_neg e]; exact (A.fb g g3).mono (by omega)
 ·by_cases e : g = h
  ·subst e
   simp only [pairC, if_true, stZip, if_pos hl]
   exact (A.cb g g3 l hl).zip (A.cb o o3 l hl) (fun u v hu hv => by omega)
  ·simp only [pairC, if_neg (show ¬ g + 1 = h + 1 by omega)]
   exact (A.cb g g3 l hl).mono (by omega)
 ·by_cases e : g = h
  ·subst e
   simp only [pairC, pairF, if_true]
   exact (A.lin h1 g g3).add (A.lin h1 o o3) (by rw [A.len g g3, A.len o o3])
  ·simp only [pairC, pairF, if_neg (show ¬ g + 1 = h + 1 by omega), if_neg e]
   exact A.lin h1 g g3
 ·by_cases e : g = h
  ·subst e
   simp only [pairC, pairF, if_true]
   obtain ⟨a, b⟩ := A.cons h1 g g3
   obtain ⟨a2, b2⟩ := A.cons h1 o o3
   refine ⟨a.add a2 R (by rw [A.len g g3, A.len o o3]), fun x hx => ?_⟩
   obtain ⟨u, hu, v, hv, rfl⟩ := zip_mem hx
   have := b u hu; have := b2 v hv; omega
  ·simp only [pairC, pairF, if_neg (show ¬ g + 1 = h + 1 by omega), if_neg e]
   exact A.cons h1 g g3
theorem AbOk.minus (A : AbOk c M N K F cs) (R : c.Ok) (hM : 0 ≤ M) (hm : c.m ≠ 2) {h o : Nat} (h3 : h < 3) (o3 : o < 3) : AbOk c (2 * M) (N + 1) K (pairF (· - ·) F h o) (pairC c (· - ·) cs h o) := by
 refine ⟨A.keys, A.nd, fun g g3 => ?_, Nat.le_succ_of_le A.few, fun g g3 => ?_, fun g g3 l hl => ?_, fun h1 g g3 => ?_, fun h1 => absurd h1 hm⟩
 ·by_cases e : g = h
  ·simp only [pairF, if_pos e, zipI_len, A.len h h3, A.len o o3, Nat.min_self]
  ·simp only [pairF, if_neg e]; exact A.len g g3
 ·by_cases e : g = h
  ·simp only [pairF, if_pos e]
   exact (A.fb h h3).zip (A.fb o o3) (fun u v hu hv => by omega)
  ·simp only [pairF, if_neg e]; exact (A.fb g g3).mono (by omega)
 ·by_cases e : g = h
  ·subst e
   simp only [pairC, if_true, stZip, if_pos hl]
   exact (A.cb g g3 l hl).zip (A.cb o o3 l hl) (fun u v hu hv => by omega)
  ·simp only [pairC, if_neg (show ¬ g + 1 = h + 1 by omega)]
   exact (A.cb g g3 l hl).mono (by omega)
 ·by_cases e : g = h
  ·subst e
   simp only [pairC, pairF, if_true]
   exact (A.lin h1 g g3).sub (A.lin h1 o o3) (by rw [A.len g g3, A.len o o3])
  ·simp only [pairC, pairF, if_neg (show ¬ g + 1 = h + 1 by omega), if_neg e]
   exact A.lin h1 g g3
end Go.Proofs.YtbhppbeepmllaaaGreatDoor
