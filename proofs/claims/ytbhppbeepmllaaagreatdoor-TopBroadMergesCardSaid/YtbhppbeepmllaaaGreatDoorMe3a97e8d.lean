import Derived.Test.YtbhppbeepmllaaaGreatDoorM0c2e0a42
import Derived.Maps.AppendAt
set_option linter.unusedVariables false
set_option linter.unusedSimpArgs false
set_option maxRecDepth 100000
namespace Go.Proofs.YtbhppbeepmllaaaGreatDoor
open Go.RowKit

def apartV (v1 v2 : Value) : Prop := ∀ b, v1.ownBlock = some b → v2.ownBlock ≠ some b

def lessL (by_ : Int) (l : List Int) : List Int := l.filter fun x => decide (x < by_)
def moreL (by_ : Int) (l : List Int) : List Int := l.filter fun x => decide (by_ < x)
def sameN (by_ : Int) (l : List Int) : Nat := (l.filter fun x => decide (x = by_)).length
theorem lessL_snoc (b x : Int) (l : List Int) : lessL b (l ++ [x]) = lessL b l ++ if x < b then [x] else [] := by
 unfold lessL; rw [List.filter_append]; by_cases h : x < b <;> simp [h]
theorem moreL_snoc (b x : Int) (l : List Int) : moreL b (l ++ [x]) = moreL b l ++ if b < x then [x] else [] := by
 unfold moreL; rw [List.filter_append]; by_cases h : b < x <;> simp [h]
theorem sameN_snoc (b x : Int) (l : List Int) : sameN b (l ++ [x]) = sameN b l + if x = b then 1 else 0 := by
 unfold sameN; rw [List.filter_append]; by_cases h : x = b <;> simp [h]

theorem take_snoc' {α : Type} {l : List α} {k : Nat} {x : α} (h : l[k]? = some x) : l.take (k + 1) = l.take k ++ [x] := by
 rw [List.take_add_one, h]; rfl

theorem own_ne {W : World} {base : Nat} {e : TypeId} {size : Nat} {v : Value} {n : Nat} {xs : List Value} (h : W.ownsRow base e size v n xs) {b : Nat} (hb : b < base) : v.ownBlock ≠ some b := by
 intro hc
 have := (h.lt b hc).1
 omega
theorem heap_alloc_at {w : World} (o : Obj) {k : Nat} (h : k = w.heap.size) : (w.alloc o).heap[k]? = some o := by subst h; exact heap_alloc_new w o
theorem heap_alloc_under {w : World} (o : Obj) {k : Nat} {v : Obj} (h : w.heap[k]? = some v) : (w.alloc o).heap[k]? = some v := by
 have hl : k < w.heap.size := by
  rcases Nat.lt_or_ge k w.heap.size with h1 | h1
  ·exact h1
  ·rw [Array.getElem?_eq_none h1] at h; cases h
 exact (heap_alloc_old w o hl).trans h
theorem apart_own {W : World} {base : Nat} {e : TypeId} {size : Nat} {v v' v2 : Value} {n : Nat} {xs : List Value} (h : W.ownsRow base e size v2 n xs) (ha : apartV v v2) (ho : v'.ownBlock = v.ownBlock ∨ v'.ownBlock = some W.heap.size) : apartV v' v2 := by
 intro b hb hc
 rcases ho with ho | ho
 ·exact ha b (ho ▸ hb) hc
 ·rw [ho] at hb; simp at hb; subst hb
  have := (h.lt _ hc).2
  omega
theorem apartV.symm {v1 v2 : Value} (h : apartV v1 v2) : apartV v2 v1 := fun b h1 h2 => h b h2 h1
theorem apartV.ne {v1 v2 : Value} (h : apartV v1 v2) : v1.ownBlock = none ∨ v1.ownBlock ≠ v2.ownBlock := by
 cases e : v1.ownBlock with
 | none => exact .inl rfl
 | some b => exact .inr fun h2 => h b e h2.symm

theorem part_any (xs : List Int) (by_ : Int) (g cap : Nat) (w : World) (hn : 0 < xs.length) (hm : xs.length ≤ 1000000) (hx : w.ownsRow 0 2 1 (.slice (some ⟨g, 0, none⟩) xs.length cap) xs.length (i64s xs)) :
  Calls Tryz.prog 328 #[.agg #[.slice (some ⟨g, 0, none⟩) xs.length cap], .int .i64 by_] w fun e w' =>
   (∃ v1 v2, e = .returned (.tuple #[.agg #[v1], .agg #[v2], .int .i64 (sameN by_ xs)]) ∧ w'.ownsRow w.heap.size 2 1 v1 (lessL by_ xs).length (i64s (lessL by_ xs)) ∧ w'.ownsRow w.heap.size 2 1 v2 (moreL by_ xs).length (i64s (moreL by_ xs))) ∧ Below w.heap.size w w' := by
 have hg := ints_lt hx
 obtain ⟨i0, hi, hz0, hz1, hz2⟩ := info_parts Tryz.info2
 go_enter Tryz.func328, Tryz.ntmps328
 go_wp2
 go_loopw [6, 14] (fun i j wr => ∃ (k : Nat) (v1 v2 : Value), k ≤ xs.length ∧ i = .int .i64 (sameN by_ (xs.take k)) ∧ j = .int .i64 k ∧ wr.heap[w.heap.size + 1]? = some (.cells #[v1] 434 (0, 0)) ∧ wr.heap[w.heap.size + 1 + 1]? = some (.cells #[v2] 434 (0, 0)) ∧
  wr.ownsRow (w.heap.size + 3) 2 1 v1 (lessL by_ (xs.take k)).length (i64s (lessL by_ (xs.take k))) ∧ wr.ownsRow (w.heap.size + 3) 2 1 v2 (moreL by_ (xs.take k)).length (i64s (moreL by_ (xs.take k))) ∧ apartV v1 v2 ∧ Below w.heap.size w wr) (fun i j _ => xs.length - (intOf j).toNat)
 case atStart =>
  refine ⟨0, .slice none 0 0, .slice none 0 0, by omega, by simp [sameN], rfl, heap_alloc_under _ (heap_alloc_at _ (by simp)), heap_alloc_at _ (by simp), ?_, ?_, by intro b h; simp [Value.ownBlock] at h, ((((Below.refl _ _).alloc (Nat.le_refl _) _).alloc (by simp) _).alloc (by simp; omega) _)⟩
  ·exact World.ownsRow_nil _ _ _ _
  ·exact World.ownsRow_nil _ _ _ _
 case round =>
  obtain ⟨k, v1, v2, hk, rfl, rfl, hT1, hT2, hO1, hO2, hA, hB⟩ := hrel
  have hl1 := lt_of_block hT2
  by_cases hlt : k < xs.length
  ·obtain ⟨x, hxk⟩ : ∃ x, xs[k]? = some x := ⟨_, List.getElem?_eq_getElem hlt⟩
   have hcell : wr.cell? ⟨g, k, none⟩ = some (.int .i64 x) := by
    rw [hB.cell (p := ⟨g, k, none⟩) hg, hx.cellAt k (by omega)]; simp [hxk, i64s]
   have ht := take_snoc' hxk
   have hc1 : wr.cell? ⟨w.heap.size + 1, 0, none⟩ = some v1 := by simp [World.cell?, hT1]
   have hc2 : wr.cell? ⟨w.heap.size + 1 + 1, 0, none⟩ = some v2 := by simp [World.cell?, hT2]
   obtain ⟨i0, hi, hz0, hz1, hz2⟩ := info_parts Tryz.info2
   have hm1 : (lessL by_ (xs.take k)).length ≤ 1000000 := by have := List.length_filter_le (fun x => decide (x < by_)) (xs.take k); simp [lessL] at *; omega
   have hm2 : (moreL by_ (xs.take k)).length ≤ 1000000 := by have := List.length_filter_le (fun x => decide (by_ < x)) (xs.take k); simp [moreL] at *; omega
   have hm0 : sameN by_ (xs.take k) ≤ 1000000 := by have := List.length_filter_le (fun x => decide (x = by_)) (xs.take k); simp [sameN] at *; omega
   have hlit : ∀ u, (wr.alloc (.cells #[.int .i64 u] 2)).cell? ⟨wr.heap.size, 0, none⟩ = some (.int .i64 u) := fun u => by go_simp
   rcases Int.lt_trichotomy x by_ with hlo | hlo | hlo
   ·obtain ⟨n1, hn1⟩ : ∃ n1, (lessL by_ (xs.take k)).length = n1 := ⟨_, rfl⟩
    rw [hn1] at hm1 hO1
    have hown := hO1.alloc (.cells #[.int .i64 x] 2)
    have hown2 := hO2.alloc (.cells #[.int .i64 x] 2)
    have hl0 := hlit x
    have hO := Lib.hid hO1
    have hTT := Lib.hid hT1
    have ht1 := heap_alloc_under (.cells #[.int .i64 x] 2) hT1
    have ht2 := heap_alloc_under (.cells #[.int .i64 x] 2) hT2
    have hB1 := hB.alloc (by omega) (.cells #[.int .i64 x] 2)
    go_wp2_with (at_builtin; refine wpList_append_own_at _ rfl (.tmp 25) (.tmp 27) 34 rfl (w.heap.size + 3) 2 i0 (.int .i64 0) 1 8 Tryz.underlying34 hi hz0 hz1 hz2 rfl (by decide) v1 n1 _ rfl hown ⟨wr.heap.size, 0, none⟩ 1 1 [.int .i64 x] rfl rfl (by intro j u hj; match j with | 0 => (simp at hj; subst hj; exact hl0) | j + 1 => simp at hj) (by intro u hu; simp at hu; subst hu; rfl) (by unfold maxLen; omega) (by omega) (by simp; omega) ?_; intro v' w1 hown' hgrow hnil hat; have hb1 := (hgrow.block (w.heap.size + 1) (by simp; omega) (own_ne hown (by omega)).symm).trans ht1; have hb2 := (hgrow.block (w.heap.size + 1 + 1) (by simp; omega) (own_ne hown (by omega)).symm).trans ht2; have hf0 : w1.frozen? ⟨w.heap.size + 1, 0, none⟩ = false := (by simp [World.frozen?, hb1]); have hg0 : w1.cell? ⟨w.heap.size + 1, 0, none⟩ = some v1 := (by simp [World.cell?, hb1]); obtain ⟨g', c', rfl⟩ := own_succ hown')
    have hat2 := apart_own hown2 hA hat
    have hown3 := hown2.kept hgrow hA.symm.ne
    have hB2 := hB1.grown hgrow (by simp; omega) (fun b e => by have := (hown.lt b e).1; omega)
    go_roundw
    case rel =>
     refine ⟨k + 1, _, v2, by omega, ?_, by go_num, by simpa using heap_setCell_same _ _ 0 _ _ _ hb1, (heap_setCell_other _ _ _ _ (by simp)).trans hb2, ?_, ?_, hat2, hB2.setCell (by simp <;> omega) _⟩
     ·rw [ht, sameN_snoc, if_neg (by omega)]; simp
     ·rw [ht, lessL_snoc, if_pos hlo, List.length_append, hn1]; simp only [i64s, List.map_append] at hown2 ⊢; exact ownsRow_setCell_below hown' (by simp) _
     ·rw [ht, moreL_snoc, if_neg (by omega), List.append_nil]; exact ownsRow_setCell_below hown3 (by simp) _
    case measure => simp [intOf]; omega
   ·go_wp2_with fail
    go_roundw
    case rel =>
     refine ⟨k + 1, v1, v2, by omega, ?_, by go_num, hT1, hT2, ?_, ?_, hA, hB⟩
     ·rw [ht, sameN_snoc, if_pos hlo]; go_num
     ·rw [ht, lessL_snoc, if_neg (by omega), List.append_nil]; exact hO1
     ·rw [ht, moreL_snoc, if_neg (by omega), List.append_nil]; exact hO2
    case measure => simp [intOf]; omega
   ·obtain ⟨n1, hn1⟩ : ∃ n1, (moreL by_ (xs.take k)).length = n1 := ⟨_, rfl⟩
    rw [hn1] at hm2 hO2
    have hown := hO2.alloc (.cells #[.int .i64 x] 2)
    have hown2 := hO1.alloc (.cells #[.int .i64 x] 2)
    have hl0 := hlit x
    have hO := Lib.hid hO2
    have hTT := Lib.hid hT2
    have ht1 := heap_alloc_under (.cells #[.int .i64 x] 2) hT1
    have ht2 := heap_alloc_under (.cells #[.int .i64 x] 2) hT2
    have hB1 := hB.alloc (by omega) (.cells #[.int .i64 x] 2)
    go_wp2_with (at_builtin; refine wpList_append_own_at _ rfl (.tmp 36) (.tmp 38) 34 rfl (w.heap.size + 3) 2 i0 (.int .i64 0) 1 8 Tryz.underlying34 hi hz0 hz1 hz2 rfl (by decide) v2 n1 _ rfl hown ⟨wr.heap.size, 0, none⟩ 1 1 [.int .i64 x] rfl rfl (by intro j u hj; match j with | 0 => (simp at hj; subst hj; exact hl0) | j + 1 => simp at hj) (by intro u hu; simp at hu; subst hu; rfl) (by unfold maxLen; omega) (by omega) (by simp; omega) ?_; intro v' w1 hown' hgrow hnil hat; have hb1 := (hgrow.block (w.heap.size + 1) (by simp; omega) (own_ne hown (by omega)).symm).trans ht1; have hb2 := (hgrow.block (w.heap.size + 1 + 1) (by simp; omega) (own_ne hown (by omega)).symm).trans ht2; have hf0 : w1.frozen? ⟨w.heap.size + 1 + 1, 0, none⟩ = false := (by simp [World.frozen?, hb2]); have hg0 : w1.cell? ⟨w.heap.size + 1 + 1, 0, none⟩ = some v2 := (by simp [World.cell?, hb2]); obtain ⟨g', c', rfl⟩ := own_succ hown')
    have hat2 := apart_own hown2 hA.symm hat
    have hown3 := hown2.kept hgrow hA.ne
    have hB2 := hB1.grown hgrow (by simp; omega) (fun b e => by have := (hown.lt b e).1; omega)
    go_roundw
    case rel =>
     refine ⟨k + 1, v1, _, by omega, ?_, by go_num, (heap_setCell_other _ _ _ _ (by simp)).trans hb1, by simpa using heap_setCell_same _ _ 0 _ _ _ hb2, ?_, ?_, hat2.symm, hB2.setCell (by simp <;> omega) _⟩
     ·rw [ht, sameN_snoc, if_neg (by omega)]; simp
     ·rw [ht, lessL_snoc, if_neg (by omega), List.append_nil]; exact ownsRow_setCell_below hown3 (by simp) _
     ·rw [ht, moreL_snoc, if_pos hlo, List.length_append, hn1]; simp only [i64s, List.map_append] at hown2 ⊢; exact ownsRow_setCell_below hown' (by simp) _
    case measure => simp [intOf]; omega
  ·obtain rfl : k = xs.length := by omega
   rw [List.take_length] at hO1 hO2
   have hg1 : wr.cell? ⟨w.heap.size + 1, 0, none⟩ = some v1 := by simp [World.cell?, hT1]
   have hg2 : wr.cell? ⟨w.heap.size + 1 + 1, 0, none⟩ = some v2 := by simp [World.cell?, hT2]
   have hf1 : wr.frozen? ⟨w.heap.size + 1, 0, none⟩ = false := by simp [World.frozen?, hT1]
   have hf2 : wr.frozen? ⟨w.heap.size + 1 + 1, 0, none⟩ = false := by simp [World.frozen?, hT2]
   have hres : (∃ b1 l1 c1, v1 = .slice b1 l1 c1) ∧ ∃ b2 l2 c2, v2 = .slice b2 l2 c2 := ⟨by rcases hO1.2 with ⟨rfl, _⟩ | ⟨_, _, _, rfl, _⟩ <;> exact ⟨_, _, _, rfl⟩, by rcases hO2.2 with ⟨rfl, _⟩ | ⟨_, _, _, rfl, _⟩ <;> exact ⟨_, _, _, rfl⟩⟩
   obtain ⟨⟨b1, l1, c1, rfl⟩, b2, l2, c2, rfl⟩ := hres
   go_wp2_with fail
   go_region
   go_wp2
   have t1 : ((wr.setCell ⟨w.heap.size + 1, 0, none⟩ (.slice b1 l1 c1)).setCell ⟨w.heap.size + 1 + 1, 0, none⟩ (.slice b2 l2 c2)).drew.cell? ⟨w.heap.size + 1, 0, none⟩ = some (.slice b1 l1 c1) := by
    go_simp
   have t2 : ((wr.setCell ⟨w.heap.size + 1, 0, none⟩ (.slice b1 l1 c1)).setCell ⟨w.heap.size + 1 + 1, 0, none⟩ (.slice b2 l2 c2)).drew.cell? ⟨w.heap.size + 1 + 1, 0, none⟩ = some (.slice b2 l2 c2) := by
    go_simp
   refine bodyPost_ret (v := .tuple #[.agg #[.slice b1 l1 c1], .agg #[.slice b2 l2 c2], .int .i64 (sameN by_ xs)]) (by simp [results, Tryz.results328, go_sem, *]) rfl ⟨⟨_, _, rfl, ?_, ?_⟩, ?_⟩
   ·exact own_base (ownsRow_setCell_below (ownsRow_setCell_below hO1 (by simp) _) (by simp) _).drew (by omega)
   ·exact own_base (ownsRow_setCell_below (ownsRow_setCell_below hO2 (by simp) _) (by simp) _).drew (by omega)
   ·exact ((hB.setCell (by simp) _).setCell (by simp <;> omega) _).drew
end Go.Proofs.YtbhppbeepmllaaaGreatDoor

namespace Go.Proofs.YtbhppbeepmllaaaGreatDoor
open Go.RowKit

def IsKth (l : List Int) (k : Nat) (x : Int) : Prop := (lessL x l).length ≤ k ∧ k < (lessL x l).length + sameN x l

theorem less_less (p x : Int) (l : List Int) (h : x ≤ p) : lessL x (lessL p l) = lessL x l := by
 unfold lessL; rw [List.filter_filter]; congr 1; funext y; by_cases h1 : y < x <;> simp [h1]; omega
theorem same_less (p x : Int) (l : List Int) (h : x < p) : sameN x (lessL p l) = sameN x l := by
 unfold lessL sameN; rw [List.filter_filter]; congr 2; funext y; by_cases h1 : y = x <;> simp [h1]; omega
theorem same_more (p x : Int) (l : List Int) (h : p < x) : sameN x (moreL p l) = sameN x l := by
 unfold moreL sameN; rw [List.filter_filter]; congr 2; funext y; by_cases h1 : y = x <;> simp [h1]; omega
theorem less_split (p x : Int) (l : List Int) (h : p < x) : (lessL x l).length = (lessL p l).length + sameN p l + (lessL x (moreL p l)).length := by
 induction l with
 | nil => simp [lessL, sameN, moreL]
 | cons y l ih =>
  unfold lessL sameN moreL at ih ⊢
  simp only [List.filter_filter, List.filter_cons] at ih ⊢
  rcases Int.lt_trichotomy y p with h1 | h1 | h1
  ·simp [h1, show y < x by omega, show ¬ y = p by omega, show ¬ p < y by omega]; omega
  ·subst h1; simp [h]; omega
  ·by_cases h2 : y < x
   ·simp [h1, h2, show ¬ y < p by omega, show ¬ y = p by omega]; omega
   ·simp [h1, h2, show ¬ y < p by omega, show ¬ y = p by omega]; omega
theorem len_split (p : Int) (l : List Int) : l.length = (lessL p l).length + sameN p l + (moreL p l).length := by
 induction l with
 | nil => simp [lessL, sameN, moreL]
 | cons y l ih =>
  unfold lessL sameN moreL at ih ⊢
  simp only [List.filter_cons]
  rcases Int.lt_trichotomy y p with h1 | h1 | h1
  ·simp [h1, show ¬ y = p by omega, show ¬ p < y by omega]; omega
  ·subst h1; simp; omega
  ·simp [h1, show ¬ y < p by omega, show ¬ y = p by omega]; omega
theorem same_pos {p : Int} {l : List Int} (h : 0 < sameN p l) : p ∈ l := by
 unfold sameN at h
 obtain ⟨y, hy⟩ := List.exists_mem_of_length_pos h
 simp at hy
 exact hy.2 ▸ hy.1
theorem same_mem {p : Int} {l : List Int} (h : p ∈ l) : 0 < sameN p l := by
 unfold sameN
 exact List.length_pos_of_mem (a := p) (by simp [h])
theorem kth_less {l : List Int} {p x : Int} {k : Nat} (h : IsKth (lessL p l) k x) : IsKth l k x := by
 have hm := same_pos (by have := h.1; have := h.2; omega : 0 < sameN x (lessL p l))
 have hx : x < p := by unfold lessL at hm; simp at hm; exact hm.2
 unfold IsKth at h ⊢
 rwa [less_less p x l (by omega), same_less p x l hx] at h
theorem kth_more {l : List Int} {p x : Int} {k : Nat} (h : IsKth (moreL p l) k x) : IsKth l ((lessL p l).length + sameN p l + k) x := by
 have hm := same_pos (by have := h.1; have := h.2; omega : 0 < sameN x (moreL p l))
 have hx : p < x := by unfold moreL at hm; simp at hm; exact hm.2
 unfold IsKth at h ⊢
 rw [less_split p x l hx, same_more p x l hx] at *
 omega
theorem kth_unique {l : List Int} {k : Nat} {x y : Int} (hx : IsKth l k x) (hy : IsKth l k y) : x = y := by
 rcases Int.lt_trichotomy x y with h | h | h
 ·have := less_split x y l h; have := hx.2; have := hy.1; omega
 ·exact h
 ·have := less_split y x l h; have := hy.2; have := hx.1; omega
theorem kth_mem {l : List Int} {k : Nat} {x : Int} (h : IsKth l k x) : x ∈ l := same_pos (by have := h.1; have := h.2; omega)

open Classical in
noncomputable def kthI (l : List Int) (k : Nat) : Int := if h : ∃ x, IsKth l k x then h.choose else 0
theorem kthI_eq {l : List Int} {k : Nat} {x : Int} (h : IsKth l k x) : kthI l k = x := by
 unfold kthI
 rw [dif_pos ⟨x, h⟩]
 exact kth_unique (Exists.choose_spec (⟨x, h⟩ : ∃ x, IsKth l k x)) h

def boxLen (b : Nat) (w : World) : Nat := match w.cell? ⟨b, 0, none⟩ with
 | some (.slice _ n _) => n
 | _ => 0

theorem boxLen_of {b : Nat} {w : World} {a : Option Addr} {n c : Nat} {t : TypeId} {fr : Nat × Nat} (h : w.heap[b]? = some (.cells #[.slice a n c] t fr)) : boxLen b w = n := by simp [boxLen, World.cell?, h]

theorem own_form {W : World} {base : Nat} {e : TypeId} {size : Nat} {v : Value} {n : Nat} {xs : List Value} (h : W.ownsRow base e size v n xs) : ∃ b c, v = .slice b n c := by
 rcases h.2 with ⟨rfl, rfl⟩ | ⟨g, cap, cur, rfl, _⟩ <;> exact ⟨_, _, rfl⟩

theorem kth_any (xs : List Int) (k0 : Nat) (g cap : Nat) (w : World) (hn : k0 < xs.length) (hm : xs.length ≤ 1000000) (hx : w.ownsRow 0 2 1 (.slice (some ⟨g, 0, none⟩) xs.length cap) xs.length (i64s xs)) :
  Calls Tryz.prog 327 #[.slice (some ⟨g, 0, none⟩) xs.length cap, .int .i64 k0] w fun e w' =>
   (∃ x, IsKth xs k0 x ∧ e = .returned (.tuple #[.int .i64 x, .bool true])) ∧ Below w.heap.size w w' := by
 have hg := ints_lt hx
 have hd0 : decide ((k0 : Int) < 0) = false := by simp
 have hd1 : decide (xs.length ≤ k0) = false := by simp; omega
 go_enter Tryz.func327, Tryz.ntmps327
 go_wp2; go_step3; go_wp2; go_step3; go_wp2
 go_loopw [1] (fun i wr => ∃ (k : Nat) (g cap : Nat) (l : List Int), i = .int .i64 k ∧ k < l.length ∧ l.length ≤ 1000000 ∧ (∀ x, IsKth l k x → IsKth xs k0 x) ∧ wr.heap[w.heap.size]? = some (.cells #[.slice (some ⟨g, 0, none⟩) l.length cap] 434 (0, 0)) ∧
  wr.ownsRow 0 2 1 (.slice (some ⟨g, 0, none⟩) l.length cap) l.length (i64s l) ∧ Below w.heap.size w wr) (fun i wr => boxLen w.heap.size wr)
 case atStart =>
  refine ⟨k0, g, cap, xs, rfl, hn, hm, fun x h => h, heap_alloc_at _ rfl, hx.alloc _, (Below.refl _ _).alloc (Nat.le_refl _) _⟩
 case round =>
  obtain ⟨k, g, cap, l, rfl, hk, hl, hK, hT, hO, hB⟩ := hrel
  have hlT := lt_of_block hT
  have hc0 : wr.cell? ⟨w.heap.size, 0, none⟩ = some (.slice (some ⟨g, 0, none⟩) l.length cap) := by simp [World.cell?, hT]
  have hlen : boxLen w.heap.size wr = l.length := by simp [boxLen, hc0]
  obtain ⟨p, hp⟩ : ∃ p, l[l.length / 2]? = some p := ⟨_, List.getElem?_eq_getElem (by omega)⟩
  have hpm := List.mem_of_getElem? hp
  have hcell : wr.cell? ⟨g, l.length / 2, none⟩ = some (.int .i64 p) := by
   rw [hO.cellAt _ (by omega)]; simp [hp, i64s]
  have HC := Lib.hid (part_any l p g cap wr (by omega) hl hO)
  go_wp2_with fail
  refine HC.out.mono ?_
  rintro e w1 ⟨⟨v1, v2, rfl, o1, o2⟩, hb⟩
  obtain ⟨b1, c1, rfl⟩ := own_form o1
  obtain ⟨b2, c2, rfl⟩ := own_form o2
  have hT1 := (hb.block _ hlT).trans hT
  have hB1 := hB.trans (hb.mono hB.size)
  have hlT1 := lt_of_block hT1
  have hf : w1.frozen? ⟨w.heap.size, 0, none⟩ = false := by simp [World.frozen?, hT1]
  have hg1 : w1.cell? ⟨w.heap.size, 0, none⟩ = some (.slice (some ⟨g, 0, none⟩) l.length cap) := by simp [World.cell?, hT1]
  have hsp := len_split p l
  have hsm := same_mem hpm
  obtain ⟨n1, hn1⟩ : ∃ n1, (lessL p l).length = n1 := ⟨_, rfl⟩
  obtain ⟨n2, hn2⟩ : ∃ n2, (moreL p l).length = n2 := ⟨_, rfl⟩
  obtain ⟨n3, hn3⟩ : ∃ n3, sameN p l = n3 := ⟨_, rfl⟩
  rw [hn1] at o1 hsp
  rw [hn2] at o2 hsp
  rw [hn3] at hsp hsm
  rw [hn1, hn2, hn3]
  have hsz := hb.size
  have H1 := Lib.hid hn1; have H2 := Lib.hid hn2; have H3 := Lib.hid hn3
  have HP := Lib.hid hsp; have HN := Lib.hid hlen
  have hl1 : n1 ≤ 1000000 := by omega
  have hl2 : n2 ≤ 1000000 := by omega
  have hl3 : n3 ≤ 1000000 := by omega
  clear hn1 hn2 hn3 hlen
  rw [hsp] at hk
  clear hsp
  rcases Nat.lt_or_ge k n1 with hc | hc
  ·obtain ⟨g1, cc, hv⟩ := own_succ (k := n1 - 1) (by rw [Nat.sub_add_cancel (by omega)]; exact o1)
   rw [Nat.sub_add_cancel (by omega)] at hv
   rw [hv] at o1 ⊢
   go_wp2_with fail
   go_roundw
   case rel =>
    have := HP.out
    refine ⟨k, g1, c1, lessL p l, rfl, by rw [H1.out]; exact hc, by rw [H1.out]; exact hl1, fun x h => hK x (kth_less h), ?_, ?_, (((hB1.setCell (Nat.le_refl _) _).alloc (by simp; omega) _).alloc (by simp; omega) _)⟩
    ·rw [H1.out]; exact heap_alloc_under _ (heap_alloc_under _ (by simpa using heap_setCell_same _ _ 0 _ _ _ hT1))
    ·rw [H1.out]; exact own_base (((ownsRow_setCell_below o1 hlT _).alloc _).alloc _) (Nat.zero_le _)
   case measure =>
    have := HP.out
    rw [boxLen_of hT, boxLen_of (heap_alloc_under _ (heap_alloc_under _ (by simpa using heap_setCell_same _ _ 0 _ _ _ hT1)))]
    omega
  ·rcases Nat.lt_or_ge k (n1 + n3) with hc2 | hc2
   ·go_wp2_with fail
    rw [Exit.noGoto_ret]
    go_ret2
    exact ⟨⟨p, hK p ⟨by rw [H1.out]; exact hc, by rw [H1.out, H3.out]; exact hc2⟩, rfl⟩, (hB1.alloc (by omega) _).alloc (by simp; omega) _⟩
   ·obtain ⟨g2, cc, hv⟩ := own_succ (k := n2 - 1) (by rw [Nat.sub_add_cancel (by omega)]; exact o2)
    rw [Nat.sub_add_cancel (by omega)] at hv
    rw [hv] at o2 ⊢
    go_wp2_with fail
    go_roundw
    case rel =>
     have := HP.out
     refine ⟨k - (n1 + n3), g2, c2, moreL p l, by simp; omega, by rw [H2.out]; omega, by rw [H2.out]; exact hl2, fun x h => hK x ?_, ?_, ?_, (((hB1.setCell (Nat.le_refl _) _).alloc (by simp; omega) _).alloc (by simp; omega) _)⟩
     ·have := kth_more h; rw [H1.out, H3.out] at this; rwa [show n1 + n3 + (k - (n1 + n3)) = k by omega] at this
     ·rw [H2.out]; exact heap_alloc_under _ (heap_alloc_under _ (by simpa using heap_setCell_same _ _ 0 _ _ _ hT1))
     ·rw [H2.out]; exact own_base (((ownsRow_setCell_below o2 hlT _).alloc _).alloc _) (Nat.zero_le _)
    case measure =>
     have := HP.out
     rw [boxLen_of hT, boxLen_of (heap_alloc_under _ (heap_alloc_under _ (by simpa using heap_setCell_same _ _ 0 _ _ _ hT1)))]
     omega
end Go.Proofs.YtbhppbeepmllaaaGreatDoor

namespace Go.Proofs.YtbhppbeepmllaaaGreatDoor
open Go.RowKit

theorem kth_ok (xs : List Int) (k0 : Nat) (g cap : Nat) (w : World) (hn : k0 < xs.length) (hm : xs.length ≤ 1000000) (hx : w.ownsRow 0 2 1 (.slice (some ⟨g, 0, none⟩) xs.length cap) xs.length (i64s xs)) :
  Calls Tryz.prog 327 #[.slice (some ⟨g, 0, none⟩) xs.length cap, .int .i64 k0] w fun e w' =>
   e = .returned (.tuple #[.int .i64 (kthI xs k0), .bool true]) ∧ Below w.heap.size w w' := by
 refine (kth_any xs k0 g cap w hn hm hx).mono ?_
 rintro e w' ⟨⟨x, h, rfl⟩, hb⟩
 exact ⟨by rw [kthI_eq h], hb⟩

theorem min_any (xs : List Int) (g cap : Nat) (w : World) (hn : 0 < xs.length) (hm : xs.length ≤ 1000000) (hx : w.ownsRow 0 2 1 (.slice (some ⟨g, 0, none⟩) xs.length cap) xs.length (i64s xs)) :
  Calls Tryz.prog 322 #[.slice (some ⟨g, 0, none⟩) xs.length cap] w fun e w' =>
   e = .returned (.tuple #[.int .i64 (kthI xs 0), .bool true]) ∧ Below w.heap.size w w' := by
 have HC := Lib.hid (kth_ok xs 0 g cap w hn hm hx)
 clear hx
 go_enter Tryz.func322, Tryz.ntmps322
 go_wp2_with fail
 refine HC.out.mono ?_
 rintro e w1 ⟨rfl, hb⟩
 go_wp2
 go_ret2
 exact ⟨rfl, hb⟩

theorem med_any (xs : List Int) (g cap : Nat) (w : World) (hn : 0 < xs.length) (hm : xs.length ≤ 1000000) (hx : w.ownsRow 0 2 1 (.slice (some ⟨g, 0, none⟩) xs.length cap) xs.length (i64s xs)) :
  Calls Tryz.prog 324 #[.slice (some ⟨g, 0, none⟩) xs.length cap] w fun e w' =>
   e = .returned (.tuple #[.int .i64 (kthI xs ((xs.length - 1) / 2)), .bool true]) ∧ Below w.heap.size w w' := by
 obtain ⟨n, hN⟩ : ∃ n, xs.length = n + 1 := ⟨xs.length - 1, by omega⟩
 have hc := kth_ok xs ((xs.length - 1) / 2) g cap w (by omega) hm hx
 rw [hN] at hc ⊢
 simp only [Nat.add_sub_cancel] at hc ⊢
 have hq : (n : Int).tdiv 2 = ((n / 2 : Nat) : Int) := by rw [Int.tdiv_eq_ediv_of_nonneg (by omega)]; omega
 have hw : IntKind.i64.wrap ((n : Int) + 1 - 1) = n := by rw [IntKind.wrap_i64]; omega
 have HC := Lib.hid hc
 clear hx hc
 go_enter Tryz.func324, Tryz.ntmps324
 go_wp2_with fail
 have hq2 : ((n / 2 : Nat) : Int) = (n : Int) / 2 := by omega
 have hc := HC.out
 rw [hq2] at hc
 refine hc.mono ?_
 rintro e w1 ⟨rfl, hb⟩
 go_wp2
 go_ret2
 exact ⟨rfl, hb⟩

def cix (width k : Nat) (c : Int) : Nat := ((k : Int) * width + c).toNat
def readL (width : Nat) (cells cols : List Int) (k : Nat) : List Int := (List.range k).map fun row => cells.getD (cix width row (cols.getD row 0)) 0

structure ColsOk (cols : List Int) (rows width : Nat) : Prop where
 len : cols.length = rows
 pos : 1 ≤ rows
 few : rows ≤ 8
 wide : width ≤ 128
 at_ : ∀ (k : Nat) (c : Int), cols[k]? = some c → 0 ≤ c ∧ c < width

theorem i64s_at {l : List Int} {k : Nat} {x : Int} (h : l[k]? = some x) : (i64s l)[k]? = some (.int .i64 x) := by simp [h]

theorem meet_any (g cb cap rows width cg cc : Nat) (cells cols : List Int) (w : World) (G : GridOk w g cb cap rows width cells) (C : ColsOk cols rows width)
  (hx : w.ownsRow 0 3 1 (.slice (some ⟨cg, 0, none⟩) cols.length cc) cols.length (i64s cols)) :
  Calls Tryz.prog 321 #[.pointer (some ⟨g, 0, none⟩), .slice (some ⟨cg, 0, none⟩) cols.length cc] w fun e w' => e = .returned (.bool true) ∧ w = w' := by
 obtain ⟨c1, c2, c3, c4, c5⟩ := C
 have R := Lib.hid (rows_any g cb cap rows width cells w G)
 have WD := Lib.hid (width_any g cb cap rows width cells w G)
 have CC := Lib.hid c5
 clear c5
 have hd1 : decide ((rows : Int) < 1) = false := by simp; omega
 rw [c1] at hx ⊢
 go_enter Tryz.func321, Tryz.ntmps321
 go_wp2_with (first | (refine (R.out).mono ?_; rintro e w' ⟨rfl, rfl⟩) | (refine (WD.out).mono ?_; rintro e w' ⟨rfl, rfl⟩))
 go_loopw [23] (fun i wr => ∃ k : Nat, k ≤ rows ∧ i = .int .i64 k ∧ w = wr) (fun i _ => rows - (intOf i).toNat)
 case atStart => exact ⟨0, by omega, rfl, rfl⟩
 case round =>
  obtain ⟨k, hk, rfl, rfl⟩ := hrel
  by_cases hlt : k < rows
  ·obtain ⟨c, hc⟩ : ∃ c, cols[k]? = some c := ⟨_, List.getElem?_eq_getElem (by omega)⟩
   have hcell : w.cell? ⟨cg, k, none⟩ = some (.int .i64 c) := by rw [hx.cellAt k (by omega)]; exact i64s_at hc
   obtain ⟨d1, d2⟩ := CC.out k c hc
   have hd2 : decide (c < 0) = false := by simp; omega
   have hd3 : decide ((width : Int) ≤ c) = false := by simp; omega
   go_wp2_with (first | (refine (R.out).mono ?_; rintro e w' ⟨rfl, rfl⟩) | (refine (WD.out).mono ?_; rintro e w' ⟨rfl, rfl⟩))
   go_roundw
   case rel => exact ⟨k + 1, by omega, by go_num, trivial⟩
   case measure => simp [intOf]; omega
  ·obtain rfl : k = rows := by omega
   go_wp2
   go_ret
   exact ⟨rfl, rfl⟩

theorem readL_len (width : Nat) (cells cols : List Int) (k : Nat) : (readL width cells cols k).length = k := by simp [readL]
theorem readL_succ (width : Nat) (cells cols : List Int) (k : Nat) : readL width cells cols (k + 1) = readL width cells cols k ++ [cells.getD (cix width k (cols.getD k 0)) 0] := by simp [readL, List.range_succ]
def readUpto (n width : Nat) (cells cols : List Int) (k : Nat) : List Value := i64s (readL width cells cols k) ++ List.replicate (n - k) (.int .i64 0)
theorem readUpto_set (n width : Nat) (cells cols : List Int) (k : Nat) (h : k < n) : (readUpto n width cells cols k).set k (.int .i64 (cells.getD (cix width k (cols.getD k 0)) 0)) = readUpto n width cells cols (k + 1) := by
 unfold readUpto
 simp only [readL_succ, i64s, List.map_append]
 rw [List.append_assoc, List.set_append_right _ _ (by simp [readL_len])]
 obtain ⟨d, hd⟩ : ∃ d, n - k = d + 1 := ⟨n - k - 1, by omega⟩
 have hd2 : n - (k + 1) = d := by omega
 simp [hd, hd2, List.replicate_succ, readL_len]

theorem readUpto_len (n width : Nat) (cells cols : List Int) (k : Nat) (h : k ≤ n) : (readUpto n width cells cols k).length = n := by
 simp [readUpto, readL_len]; omega

theorem cix_lt {rows width k : Nat} {c : Int} (h2 : k < rows) (h3 : 0 ≤ c) (h4 : c < width) : cix width k c < rows * width := by
 have := idx_lt (rows := rows) (width := width) (row := k) (col := c) (by omega) (by omega) h3 h4
 unfold cix; omega
theorem getD_of {l : List Int} {k : Nat} {x : Int} (h : l[k]? = some x) : l.getD k 0 = x := by simp [List.getD, h]
theorem some_getD {l : List Int} {k : Nat} (h : k < l.length) : l[k]? = some (l.getD k 0) := by simp [List.getD, List.getElem?_eq_getElem h]

theorem read_any (g cb cap rows width cg cc : Nat) (cells cols : List Int) (w : World) (G : GridOk w g cb cap rows width cells) (C : ColsOk cols rows width)
  (hx : w.ownsRow 0 3 1 (.slice (some ⟨cg, 0, none⟩) cols.length cc) cols.length (i64s cols)) :
  Calls Tryz.prog 316 #[.pointer (some ⟨g, 0, none⟩), .slice (some ⟨cg, 0, none⟩) cols.length cc] w fun e w' =>
   (∃ g' c', e = .returned (.tuple #[.slice (some ⟨g', 0, none⟩) rows c', .int .i64 0]) ∧ w'.ownsRow w.heap.size 2 1 (.slice (some ⟨g', 0, none⟩) rows c') rows (i64s (readL width cells cols rows))) ∧ Below w.heap.size w w' := by
 have HM := Lib.hid (meet_any g cb cap rows width cg cc cells cols w G C hx)
 obtain ⟨c1, c2, c3, c4, c5⟩ := C
 have CC := Lib.hid c5
 clear c5
 have hl := G.lt
 rw [c1] at hx HM ⊢
 have hcg := ints_lt hx
 obtain ⟨i0, hi, hz0, hz1, hz2⟩ := info_parts Tryz.info2
 go_enter Tryz.func316, Tryz.ntmps316
 go_wp2_with (first | (refine (HM.out).mono ?_; rintro e w' ⟨rfl, rfl⟩) | (at_make; refine wpList_make_full _ rfl (.tmp 14) (.tmp 14) 34 rfl w.heap.size 2 i0 (.int .i64 0) 1 Tryz.underlying34 hi hz0 hz1 .i64 .i64 rows rows rows rfl rfl (by omega) (by omega) (by rw [hz2]; omega) (by unfold maxLen; omega) (by omega) ?_; intro w2 hown hgrow))
 simp only [Value.cells, Nat.mul_one, toList_madeCells_one] at hown
 have hB2 := below_of_grown hgrow
 clear hgrow
 go_loopw [18] (fun i wr => ∃ k : Nat, k ≤ rows ∧ i = .int .i64 k ∧ wr.ownsRow w.heap.size 2 1 (.slice (some ⟨w.heap.size, 0, none⟩) rows rows) rows (readUpto rows width cells cols k) ∧ Below w.heap.size w wr) (fun i _ => rows - (intOf i).toNat)
 case atStart => exact ⟨0, by omega, rfl, hown, hB2⟩
 case round =>
  obtain ⟨k, hk, rfl, hown, hB⟩ := hrel
  by_cases hlt : k < rows
  ·have hc := some_getD (l := cols) (k := k) (by omega)
   obtain ⟨d1, d2⟩ := CC.out k _ hc
   have hcell : wr.cell? ⟨cg, k, none⟩ = some (.int .i64 (cols.getD k 0)) := by rw [hB.cell (p := ⟨cg, k, none⟩) hcg, hx.cellAt k (by omega)]; exact i64s_at hc
   have hix := cix_lt (rows := rows) hlt d1 d2
   have HA := Lib.hid (at_any g cb cap rows width cells k (cols.getD k 0) (cells.getD (cix width k (cols.getD k 0)) 0) wr (G.below hB hl.1 hl.2) (by omega) (by omega) d1 d2 c3 c4 (some_getD (by rw [G.sz]; exact hix)))
   have HS := Lib.hid (readUpto_set rows width cells cols k hlt)
   have hcell2 := hown.cellAt k (by omega)
   have hfr := hown.frozenAt k
   obtain ⟨u, hu⟩ : ∃ u, (readUpto rows width cells cols k)[k]? = some u := ⟨_, List.getElem?_eq_getElem (by rw [readUpto_len _ _ _ _ _ hk]; exact hlt)⟩
   rw [hu] at hcell2
   clear hu hc
   generalize cols.getD k 0 = c at *
   generalize cells.getD (cix width k c) 0 = x at *
   go_wp2_with (first | (refine (HA.out).mono ?_; rintro e w' ⟨rfl, rfl⟩))
   go_roundw
   case rel => exact ⟨k + 1, by omega, by go_num, by rw [← HS.out]; exact (hown.stored k _).1, hB.setCell (Nat.le_refl _) _⟩
   case measure => simp [intOf]; omega
  ·obtain rfl : k = rows := by omega
   go_wp2
   go_ret2
   refine ⟨⟨_, _, rfl, ?_⟩, hB⟩
   have e : readUpto k width cells cols k = i64s (readL width cells cols k) := by simp [readUpto]
   rw [← e]
   exact hown
end Go.Proofs.YtbhppbeepmllaaaGreatDoor

set_option maxHeartbeats 2000000
namespace Go.Proofs.YtbhppbeepmllaaaGreatDoor
open Go.RowKit

theorem ofmin_any (g cb cap rows width cg cc : Nat) (cells cols : List Int) (w : World) (G : GridOk w g cb cap rows width cells) (C : ColsOk cols rows width)
  (hx : w.ownsRow 0 3 1 (.slice (some ⟨cg, 0, none⟩) cols.length cc) cols.length (i64s cols)) :
  Calls Tryz.prog 323 #[.agg #[.func (.func 322) #[] #[]], .pointer (some ⟨g, 0, none⟩), .slice (some ⟨cg, 0, none⟩) cols.length cc] w fun e w' =>
   e = .returned (.tuple #[.int .i64 (kthI (readL width cells cols rows) 0), .int .i64 0]) ∧ Below w.heap.size w w' := by
 have hl := G.lt
 have hcg := ints_lt hx
 have hp := C.pos
 have hf := C.few
 have HR := Lib.hid (read_any g cb cap rows width cg cc cells cols _ (G.below ((Below.refl _ _).alloc (Nat.le_refl _) (.cells #[.func (.func 322) #[] #[]] 430)) hl.1 hl.2) C (hx.alloc _))
 clear hx G C
 go_enter Tryz.func323, Tryz.ntmps323
 go_wp2_with fail
 refine HR.out.mono ?_
 rintro e w1 ⟨⟨g', c', rfl, ho⟩, hb⟩
 have hb1 := below_alloc hb
 have hc : w1.cell? ⟨w.heap.size, 0, none⟩ = some (.func (.func 322) #[] #[]) := (hb.cell (p := ⟨w.heap.size, 0, none⟩) (by simp)).trans (by go_simp)
 have HK := Lib.hid (min_any (readL width cells cols rows) g' c' w1 (by rw [readL_len]; omega) (by rw [readL_len]; omega) (by rw [readL_len]; exact own_base ho (Nat.zero_le _)))
 rw [readL_len] at HK
 go_wp2_with fail
 refine HK.out.mono ?_
 rintro e w2 ⟨rfl, hb2⟩
 go_wp2
 go_ret2
 exact ⟨rfl, hb1.trans (hb2.mono hb1.size)⟩

theorem ofmid_any (g cb cap rows width cg cc : Nat) (cells cols : List Int) (w : World) (G : GridOk w g cb cap rows width cells) (C : ColsOk cols rows width)
  (hx : w.ownsRow 0 3 1 (.slice (some ⟨cg, 0, none⟩) cols.length cc) cols.length (i64s cols)) :
  Calls Tryz.prog 323 #[.agg #[.func (.func 324) #[] #[]], .pointer (some ⟨g, 0, none⟩), .slice (some ⟨cg, 0, none⟩) cols.length cc] w fun e w' =>
   e = .returned (.tuple #[.int .i64 (kthI (readL width cells cols rows) ((rows - 1) / 2)), .int .i64 0]) ∧ Below w.heap.size w w' := by
 have hl := G.lt
 have hcg := ints_lt hx
 have hp := C.pos
 have hf := C.few
 have HR := Lib.hid (read_any g cb cap rows width cg cc cells cols _ (G.below ((Below.refl _ _).alloc (Nat.le_refl _) (.cells #[.func (.func 324) #[] #[]] 430)) hl.1 hl.2) C (hx.alloc _))
 clear hx G C
 go_enter Tryz.func323, Tryz.ntmps323
 go_wp2_with fail
 refine HR.out.mono ?_
 rintro e w1 ⟨⟨g', c', rfl, ho⟩, hb⟩
 have hb1 := below_alloc hb
 have hc : w1.cell? ⟨w.heap.size, 0, none⟩ = some (.func (.func 324) #[] #[]) := (hb.cell (p := ⟨w.heap.size, 0, none⟩) (by simp)).trans (by go_simp)
 have HK := Lib.hid (med_any (readL width cells cols rows) g' c' w1 (by rw [readL_len]; omega) (by rw [readL_len]; omega) (by rw [readL_len]; exact own_base ho (Nat.zero_le _)))
 rw [readL_len] at HK
 go_wp2_with fail
 refine HK.out.mono ?_
 rintro e w2 ⟨rfl, hb2⟩
 go_wp2
 go_ret2
 exact ⟨rfl, hb1.trans (hb2.mono hb1.size)⟩

theorem least_any (g cb cap rows width cg cc : Nat) (cells cols : List Int) (w : World) (G : GridOk w g cb cap rows width cells) (C : ColsOk cols rows width)
  (hx : w.ownsRow 0 3 1 (.slice (some ⟨cg, 0, none⟩) cols.length cc) cols.length (i64s cols)) :
  Calls Tryz.prog 317 #[.pointer (some ⟨g, 0, none⟩), .slice (some ⟨cg, 0, none⟩) cols.length cc] w fun e w' =>
   e = .returned (.tuple #[.int .i64 (kthI (readL width cells cols rows) 0), .int .i64 0]) ∧ Below w.heap.size w w' := by
 have HR := Lib.hid (ofmin_any g cb cap rows width cg cc cells cols _ G C hx)
 clear hx G C
 go_enter Tryz.func317, Tryz.ntmps317
 go_wp2_with fail
 refine HR.out.mono ?_
 rintro e w1 ⟨rfl, hb⟩
 go_wp2
 go_ret2
 exact ⟨rfl, hb⟩
theorem middle_any (g cb cap rows width cg cc : Nat) (cells cols : List Int) (w : World) (G : GridOk w g cb cap rows width cells) (C : ColsOk cols rows width)
  (hx : w.ownsRow 0 3 1 (.slice (some ⟨cg, 0, none⟩) cols.length cc) cols.length (i64s cols)) :
  Calls Tryz.prog 318 #[.pointer (some ⟨g, 0, none⟩), .slice (some ⟨cg, 0, none⟩) cols.length cc] w fun e w' =>
   e = .returned (.tuple #[.int .i64 (kthI (readL width cells cols rows) ((rows - 1) / 2)), .int .i64 0]) ∧ Below w.heap.size w w' := by
 have HR := Lib.hid (ofmid_any g cb cap rows width cg cc cells cols _ G C hx)
 clear hx G C
 go_enter Tryz.func318, Tryz.ntmps318
 go_wp2_with fail
 refine HR.out.mono ?_
 rintro e w1 ⟨rfl, hb⟩
 go_wp2
 go_ret2
 exact ⟨rfl, hb⟩

def putK (width : Nat) (cells cols vals : List Int) : Nat → List Int
 | 0 => cells
 | k + 1 => (putK width cells cols vals k).set (cix width k (cols.getD k 0)) (vals.getD k 0)
theorem putK_len (width : Nat) (cells cols vals : List Int) (k : Nat) : (putK width cells cols vals k).length = cells.length := by
 induction k with
 | zero => rfl
 | succ k ih => simp [putK, ih]

theorem grown_trans {a b c : World} {r : Option Nat} (h : a.grownBy b r) (k : b.grownBy c r) : a.grownBy c r :=
 ⟨k.os.trans h.os, k.tape.trans h.tape, k.output.trans h.output, Nat.le_trans h.size k.size, fun i hi hr => (k.block i (Nat.lt_of_lt_of_le hi h.size) hr).trans (h.block i hi hr)⟩
theorem grown_set (w : World) (b o : Nat) (u : Value) : w.grownBy (w.setCell ⟨b, o, none⟩ u) (some b) :=
 ⟨rfl, rfl, rfl, by simp [World.setCell], fun k hk hr => heap_setCell_other w ⟨b, o, none⟩ k u (fun e => hr (by rw [e]))⟩
theorem grown_fresh {w w' : World} {r : Nat} (h : w.grownBy w' (some r)) (hr : w.heap.size ≤ r) : Below w.heap.size w w' :=
 ⟨h.os, h.tape, h.output, h.size, fun k hk => h.block k hk (by intro e; cases e; omega)⟩
theorem grown_below {B : Nat} {a b c : World} {r : Option Nat} (h : a.grownBy b r) (k : Below B b c) (hB : a.heap.size ≤ B) : a.grownBy c r :=
 ⟨k.os.trans h.os, k.tape.trans h.tape, k.output.trans h.output, Nat.le_trans h.size k.size, fun i hi hr => (k.block i (by omega)).trans (h.block i hi hr)⟩

def addUpto (l : List Int) (d : Int) (k : Nat) : List Value := i64s ((l.take k).map (· + d) ++ l.drop k)
theorem addUpto_zero (l : List Int) (d : Int) : addUpto l d 0 = i64s l := by simp [addUpto]
theorem addUpto_all (l : List Int) (d : Int) {k : Nat} (h : l.length = k) : addUpto l d k = i64s (l.map (· + d)) := by subst h; simp [addUpto]
theorem addUpto_at (l : List Int) (d x : Int) (k : Nat) (h : l[k]? = some x) : (addUpto l d k)[k]? = some (.int .i64 x) := by
 have hk := (List.getElem?_eq_some_iff.1 h).1
 unfold addUpto
 rw [i64s, List.getElem?_map, List.getElem?_append_right (by simp; omega)]
 simp [Nat.min_eq_left (Nat.le_of_lt hk), h]
theorem addUpto_set (l : List Int) (d x : Int) (k : Nat) (h : l[k]? = some x) : (addUpto l d k).set k (.int .i64 (x + d)) = addUpto l d (k + 1) := by
 unfold addUpto
 have hk := (List.getElem?_eq_some_iff.1 h).1
 have e : l.drop k = x :: l.drop (k + 1) := by rw [List.drop_eq_getElem_cons hk]; congr 1; simpa [List.getElem?_eq_getElem hk] using h
 rw [e, take_snoc' h]
 have hlen : (l.take k).length = k := by simp; omega
 simp only [i64s, List.map_append, List.map_cons, List.map_nil]
 rw [List.set_append_right _ _ (by simp; omega)]
 simp [hlen, Nat.min_eq_left (Nat.le_of_lt hk)]

theorem getD_past {l : List Int} {i : Nat} (h : l.length ≤ i) : l.getD i 0 = 0 := by simp [List.getD, List.getElem?_eq_none h]
theorem own_kind_ne {w : World} {b1 b2 : Nat} {e1 e2 : TypeId} {g1 n1 c1 g2 n2 c2 : Nat} {xs ys : List Value} (h1 : w.ownsRow b1 e1 1 (.slice (some ⟨g1, 0, none⟩) n1 c1) n1 xs) (h2 : w.ownsRow b2 e2 1 (.slice (some ⟨g2, 0, none⟩) n2 c2) n2 ys) (h : e1 ≠ e2) : g1 ≠ g2 := by
 intro e
 subst e
 obtain ⟨a1, h3, _⟩ := own_block h1
 obtain ⟨a2, h4, _⟩ := own_block h2
 have := h3.symm.trans h4
 simp at this
 exact h this.2

theorem change_any (g cb cap rows width cg cc : Nat) (cells cols : List Int) (d : Int) (w : World) (G : GridOk w g cb cap rows width cells) (C : ColsOk cols rows width)
  (hx : w.ownsRow 0 3 1 (.slice (some ⟨cg, 0, none⟩) cols.length cc) cols.length (i64s cols))
  (hd0 : -1152921504606846976 ≤ d) (hd1 : d ≤ 1152921504606846976) (hcs : ∀ x ∈ cells, -1152921504606846976 ≤ x ∧ x ≤ 1152921504606846976) :
  Calls Tryz.prog 320 #[.pointer (some ⟨g, 0, none⟩), .slice (some ⟨cg, 0, none⟩) cols.length cc, .int .i64 d] w fun e w' =>
   e = .returned (.int .i64 0) ∧ GridOk w' g cb cap rows width (putK width cells cols ((readL width cells cols rows).map (· + d)) rows) ∧ w.grownBy w' (some cb) := by
 have HR := Lib.hid (read_any g cb cap rows width cg cc cells cols w G C hx)
 have hl := G.lt
 have hcg := ints_lt hx
 obtain ⟨c1, c2, c3, c4, c5⟩ := C
 have CC := Lib.hid c5
 have HCS := Lib.hid hcs
 clear c5 hcs
 rw [c1] at hx HR ⊢
 obtain ⟨l, hL⟩ : ∃ l, readL width cells cols rows = l := ⟨_, rfl⟩
 have hll : l.length = rows := by rw [← hL, readL_len]
 have hlb : ∀ (k : Nat) x, l[k]? = some x → -1152921504606846976 ≤ x ∧ x ≤ 1152921504606846976 := by
  intro k x hk
  rw [← hL] at hk
  have h1 := List.mem_of_getElem? hk
  unfold readL at h1
  simp only [List.mem_map, List.mem_range] at h1
  obtain ⟨row, hr, rfl⟩ := h1
  by_cases hc : cix width row (cols.getD row 0) < cells.length
  ·exact HCS.out _ (List.mem_of_getElem? (some_getD hc))
  ·rw [getD_past (by omega)]; omega
 rw [hL] at HR ⊢
 obtain ⟨vs, hV⟩ : ∃ vs, l.map (· + d) = vs := ⟨_, rfl⟩
 have hvl : vs.length = rows := by rw [← hV, List.length_map]; exact hll
 rw [hV]
 have HLL := Lib.hid hll; have HLB := Lib.hid hlb
 have HVL := Lib.hid hvl; have HV := Lib.hid hV
 clear hll hlb hL hvl hV
 go_enter Tryz.func320, Tryz.ntmps320
 go_wp2_with fail
 refine HR.out.mono ?_
 rintro e w1 ⟨⟨g', c', rfl, ho⟩, hb⟩
 have hg' := ints_lt ho
 have G1 := G.below hb hl.1 hl.2
 go_wp2_with fail
 go_loopw [26] (fun i wr => ∃ k : Nat, k ≤ rows ∧ i = .int .i64 k ∧ wr.ownsRow w.heap.size 2 1 (.slice (some ⟨g', 0, none⟩) rows c') rows (addUpto l d k) ∧ Below w.heap.size w wr) (fun i _ => rows - (intOf i).toNat)
 case atStart => exact ⟨0, by omega, rfl, by rw [addUpto_zero]; exact ho, hb⟩
 case round =>
  obtain ⟨k, hk, rfl, hown, hB⟩ := hrel
  by_cases hlt : k < rows
  ·obtain ⟨x, hx1⟩ : ∃ x, l[k]? = some x := ⟨_, List.getElem?_eq_getElem (by rw [HLL.out]; omega)⟩
   obtain ⟨y1, y2⟩ := HLB.out k x hx1
   have HP := Lib.hid (wplus_any x d wr y1 y2 hd0 hd1)
   have hcell := hown.cellAt k (by omega)
   rw [addUpto_at l d x k hx1] at hcell
   have HS := Lib.hid (addUpto_set l d x k hx1)
   clear hx1
   go_wp2_with fail
   refine HP.out.mono ?_
   rintro e w2 ⟨rfl, hb2⟩
   have hown2 := hown.kept (grown_of_below hb2 none) (by simp [Value.ownBlock])
   have hcell2 := (hb2.cell (p := ⟨g', k, none⟩) (ints_lt hown)).trans hcell
   have hfr := hown2.frozenAt k
   go_wp2_with fail
   go_roundw
   case rel => exact ⟨k + 1, by omega, by go_num, by rw [← HS.out]; exact (hown2.stored k _).1, (hB.trans (hb2.mono hB.size)).setCell (by show w.heap.size ≤ g'; exact (ho.lt g' rfl).1) _⟩
   case measure => simp [intOf]; omega
  ·obtain rfl : k = rows := by omega
   rw [addUpto_all l d HLL.out] at hown
   rw [HV.out] at hown
   have G2 := G.below hB hl.1 hl.2
   have hgw := grown_of_below hB (some cb)
   go_wp2_with fail
   go_loopw [46] (fun i wq => ∃ j : Nat, j ≤ k ∧ i = .int .i64 j ∧ wq.ownsRow w.heap.size 2 1 (.slice (some ⟨g', 0, none⟩) k c') k (i64s vs) ∧ GridOk wq g cb cap k width (putK width cells cols vs j) ∧ w.grownBy wq (some cb)) (fun i _ => k - (intOf i).toNat)
   case atStart => exact ⟨0, by omega, rfl, hown, G2, hgw⟩
   case round =>
    obtain ⟨j, hj, rfl, hown, hG, hgw⟩ := hrel
    by_cases hlt : j < k
    ·have hc := some_getD (l := cols) (k := j) (by omega)
     obtain ⟨d1, d2⟩ := CC.out j _ hc
     have hcc : wr.cell? ⟨cg, j, none⟩ = some (.int .i64 (cols.getD j 0)) := by
      rw [World.cell?_of_block (w := w) (hgw.block cg hcg (by intro e; cases e; exact own_kind_ne hx G.row (by decide) rfl)), hx.cellAt j (by omega)]
      exact i64s_at hc
     have hcv : wr.cell? ⟨g', j, none⟩ = some (.int .i64 (vs.getD j 0)) := by
      rw [hown.cellAt j (by omega)]
      exact i64s_at (some_getD (by rw [HVL.out]; exact hlt))
     have HP := Lib.hid (put_any g cb cap k width (putK width cells cols vs j) j (cols.getD j 0) (vs.getD j 0) wr hG (by omega) (by omega) d1 d2 c3 c4)
     have hset := hG.set (cix width j (cols.getD j 0)) (vs.getD j 0)
     have hpk : (putK width cells cols vs j).set (cix width j (cols.getD j 0)) (vs.getD j 0) = putK width cells cols vs (j + 1) := rfl
     rw [hpk] at hset
     have hcx : ((j : Int) * width + cols.getD j 0).toNat = cix width j (cols.getD j 0) := rfl
     rw [hcx] at HP
     have hgw2 := grown_trans hgw (grown_set wr cb (cix width j (cols.getD j 0)) (.int .i64 (vs.getD j 0)))
     have hown2 := hown.kept (grown_set wr cb (cix width j (cols.getD j 0)) (.int .i64 (vs.getD j 0))) (.inr (by have := (ho.lt g' rfl).1; simp [Value.ownBlock]; omega))
     clear hc hpk hcx
     generalize cix width j (cols.getD j 0) = ix at *
     generalize cols.getD j 0 = c at *
     generalize vs.getD j 0 = v at *
     go_wp2_with (first | (refine (HP.out).mono ?_; rintro e w' ⟨rfl, rfl⟩))
     go_roundw
     case rel => exact ⟨j + 1, by omega, by go_num, hown2, hset, hgw2⟩
     case measure => simp [intOf]; omega
    ·obtain rfl : j = k := by omega
     go_wp2
     go_ret
     exact ⟨rfl, hG, hgw⟩
end Go.Proofs.YtbhppbeepmllaaaGreatDoor
