import Derived.Test.YtbhppbeepmllaaaGreatDoorM90649028
import Derived.Test.YtbhppbeepmllaaaGreatDoorMac2c1014
import Derived.Laws.RangeString
import Derived.Laws.RangeAny
import Derived.Test.YtbhppbeepmllaaaGreatDoorM5a42addf
set_option linter.unusedVariables false
set_option linter.unusedSimpArgs false
set_option maxRecDepth 100000
set_option maxHeartbeats 2000000
namespace Go.Proofs.YtbhppbeepmllaaaGreatDoor
open Go.RowKit

def Asc (s : ByteArray) : Prop := ∀ (i : Nat) (h : i < s.size), (s[i]'h).toNat < 128
theorem torn_any (s : ByteArray) (w : World) (ha : Asc s) (hs : s.size ≤ 65536) :
  Calls Tryz.prog 73 #[.string s] w fun e w' => e = .returned (.int .i64 (-1)) ∧ Below w.heap.size w w' := by
 go_enter Tryz.func73, Tryz.ntmps73
 go_wp2
 go_loopw [] (fun w' => ∃ pos : Nat, pos ≤ s.size ∧ w' = w.iter s pos) (fun w' => s.size - w'.iterPos w.heap.size)
 case atStart => exact ⟨0, by omega, rfl⟩
 case round =>
  obtain ⟨pos, hp, rfl⟩ := hrel
  by_cases hlt : pos < s.size
  ·have hnx : ∀ ty, (Instr.next (.pointer (some ⟨w.heap.size, 0, none⟩)) true ty).run Tryz.prog (w.iter s pos) = _ := fun ty => run_next_ascii w s pos ty hlt (ha pos hlt)
   have hc := ha pos hlt
   have d1 : ((((s[pos]'hlt).toNat : Nat) : Int) != 65533) = true := by simp; omega
   have d2 : decide ((((s[pos]'hlt).toNat : Nat) : Int) = 65533) = false := by simp; omega
   go_wp2
   go_roundw
   case rel => exact ⟨pos + 1, by omega, rfl⟩
   case measure => simp; omega
  ·have hnx : ∀ ty, (Instr.next (.pointer (some ⟨w.heap.size, 0, none⟩)) true ty).run Tryz.prog (w.iter s pos) = _ := fun ty => run_next_end w s pos ty hlt
   go_wp2
   go_ret
   exact ⟨rfl, (Below.refl _ _).alloc (Nat.le_refl _) _⟩
end Go.Proofs.YtbhppbeepmllaaaGreatDoor

namespace Go.Proofs.YtbhppbeepmllaaaGreatDoor
open Go.RowKit

def bt (s : ByteArray) (i : Nat) : Nat := if h : i < s.size then (s[i]'h).toNat else 0
theorem bt_at {s : ByteArray} {i : Nat} (h : i < s.size) : (s[i]'h).toNat = bt s i := by unfold bt; rw [dif_pos h]
structure WordsAt (s : ByteArray) (n : Nat) (st en : Nat → Nat) : Prop where
 pos : 0 < n
 st0 : st 0 = 0
 lt : ∀ j, j < n → st j < en j
 nx : ∀ j, j + 1 < n → st (j + 1) = en j + 1
 fin : en (n - 1) = s.size
 blank : ∀ j, j + 1 < n → bt s (en j) = 32
 full : ∀ j, j < n → ∀ i, st j ≤ i → i < en j → bt s i ≠ 32
 plain : ∀ j, j < n → bt s (st j) ≠ 34
theorem WordsAt.en_le {s : ByteArray} {n : Nat} {st en : Nat → Nat} (W : WordsAt s n st en) : ∀ d j, j + d + 1 = n → en j ≤ s.size
 | 0, j, h => by rw [← W.fin, show n - 1 = j by omega]; omega
 | d + 1, j, h => by
  have h1 := W.en_le d (j + 1) (by omega)
  have h2 := W.lt (j + 1) (by omega)
  have h3 := W.nx j (by omega)
  omega
theorem WordsAt.le {s : ByteArray} {n : Nat} {st en : Nat → Nat} (W : WordsAt s n st en) (j : Nat) (h : j < n) : en j ≤ s.size := W.en_le (n - 1 - j) j (by omega)
theorem WordsAt.lt2 {s : ByteArray} {n : Nat} {st en : Nat → Nat} (W : WordsAt s n st en) (j : Nat) (h : j + 1 < n) : en j < s.size := by
 have h1 := W.le (j + 1) h
 have h2 := W.lt (j + 1) h
 have h3 := W.nx j h
 omega
def wds (s : ByteArray) (st en : Nat → Nat) (k : Nat) : List Value := (List.range k).flatMap fun j => [.string (s.extract (st j) (en j)), .int .i64 (st j)]
theorem wds_succ (s : ByteArray) (st en : Nat → Nat) (k : Nat) : wds s st en (k + 1) = wds s st en k ++ [.string (s.extract (st k) (en k)), .int .i64 (st k)] := by simp [wds, List.range_succ]
theorem wds_len (s : ByteArray) (st en : Nat → Nat) (k : Nat) : (wds s st en k).length = k * 2 := by
 induction k with
 | zero => rfl
 | succ k ih => rw [wds_succ, List.length_append, ih]; simp; omega
theorem wds_at (s : ByteArray) (st en : Nat → Nat) : ∀ (n k : Nat), k < n → (wds s st en n)[k * 2]? = some (.string (s.extract (st k) (en k))) ∧ (wds s st en n)[k * 2 + 1]? = some (.int .i64 (st k))
 | 0, k, h => by omega
 | n + 1, k, h => by
  rw [wds_succ]
  by_cases e : k = n
  ·subst e
   rw [List.getElem?_append_right (by rw [wds_len]; omega), List.getElem?_append_right (by rw [wds_len]; omega), wds_len]
   simp
  ·obtain ⟨h1, h2⟩ := wds_at s st en n k (by omega)
   rw [List.getElem?_append_left (by rw [wds_len]; omega), List.getElem?_append_left (by rw [wds_len]; omega)]
   exact ⟨h1, h2⟩
theorem lit2g (V : World) (x y : Value) (t : TypeId) (z : Nat) (hz : z = V.heap.size) : ∀ j u, ([x, y] : List Value)[j]? = some u → (V.alloc (.cells #[x, y] t)).cell? ((⟨z, 0, none⟩ : Addr).add j) = some u := by
 subst hz
 intro j u hj
 have h := heap_alloc_at (w := V) (.cells #[x, y] t) rfl
 match j, hj with
 | 0, hj => simp at hj; subst hj; exact cell_of_heap h 0 _ (by simp)
 | 1, hj => simp at hj; subst hj; exact cell_of_heap h 1 _ (by simp)
 | j + 2, hj => simp at hj
theorem Tryz.info223 : (Tryz.prog.info? 223).map (fun i => (i.zero, i.size, i.bytes)) = some (some (.agg #[.string ⟨#[]⟩, .int .i64 0]), 2, 24) := by kernel_rfl
theorem words_any (s : ByteArray) (n : Nat) (st en : Nat → Nat) (w : World) (W : WordsAt s n st en) (hs : s.size ≤ 65536) :
  Calls Tryz.prog 74 #[.string s] w fun e w' => (∃ g cc, e = .returned (.slice (some ⟨g, 0, none⟩) n cc) ∧ w'.ownsRow w.heap.size 223 2 (.slice (some ⟨g, 0, none⟩) n cc) n (wds s st en n)) ∧ Below w.heap.size w w' := by
 obtain ⟨i0, hi, hz0, hz1, hz2⟩ := info_parts Tryz.info223
 have hn65 : n ≤ 65536 := by
  have h : ∀ j, j < n → j ≤ st j := by
   intro j
   induction j with
   | zero => intro _; omega
   | succ j ih => intro h; have := W.nx j h; have := W.lt j (by omega); have := ih (by omega); omega
  have h1 := h (n - 1) (by have := W.pos; omega)
  have h2 := W.lt (n - 1) (by have := W.pos; omega)
  have h3 := W.fin
  omega
 go_enter Tryz.func74, Tryz.ntmps74
 go_wp2
 go_loopw [2, 3] (fun o a wr => ∃ j p : Nat, a = .int .i64 p ∧ ((j < n ∧ (p = st j ∨ (0 < j ∧ p + 1 = st j))) ∨ (j = n ∧ p = s.size)) ∧ wr.ownsRow w.heap.size 223 2 o j (wds s st en j) ∧ Below w.heap.size w wr) (fun o a _ => s.size - (intOf a).toNat)
 case atStart => exact ⟨0, 0, rfl, .inl ⟨W.pos, .inl W.st0.symm⟩, World.ownsRow_nil _ _ _ _, Below.refl _ _⟩
 case round =>
  obtain ⟨j, p, rfl, hpos, hO, hB⟩ := hrel
  rcases hpos with ⟨hj, rfl | ⟨hj0, hp⟩⟩ | ⟨rfl, rfl⟩
  ·have h1 := W.lt j hj
   have h2 := W.le j hj
   have hlt : st j < s.size := by omega
   have b1 := W.full j hj (st j) (Nat.le_refl _) h1
   have b2 := W.plain j hj
   have e0 := bt_at hlt
   have d1 : (((((s[st j]'hlt).toNat : Nat) : Int)) == 32) = false := by rw [e0]; simp; omega
   have d2 : (((((s[st j]'hlt).toNat : Nat) : Int)) == 34) = false := by rw [e0]; simp; omega
   clear e0 b1 b2
   have HO := Lib.hid hO
   clear hO
   go_wp2
   go_loop [4] (fun e => ∃ k : Nat, st j ≤ k ∧ k ≤ en j ∧ e = .int .i64 k) (fun e => s.size - (intOf e).toNat)
   case atStart => exact ⟨st j, Nat.le_refl _, by omega, rfl⟩
   case round =>
    obtain ⟨k, hk1, hk2, rfl⟩ := hrel
    by_cases hke : k < en j
    ·have hks : k < s.size := by omega
     have b3 := W.full j hj k hk1 hke
     have e3 := bt_at hks
     have d3 : (((((s[k]'hks).toNat : Nat) : Int)) != 32) = true := by rw [e3]; simp; omega
     have d4 : decide ((k : Int) < s.size) = true := by simp; omega
     clear e3 b3
     go_wp2
     go_round
     case rel => exact ⟨k + 1, by omega, by omega, by go_num⟩
     case measure => simp [intOf]; omega
    ·obtain rfl : k = en j := by omega
     have hsz := hB.size
     have hjn : j ≤ 65536 := by omega
     have key : ∀ (v' : Value) (w1 : World), w1.ownsRow w.heap.size 223 2 v' (j + 1) (wds s st en j ++ [.string (s.extract (st j) (en j)), .int .i64 (st j)]) → (wr.alloc (.cells #[.string (s.extract (st j) (en j)), .int .i64 (st j)] 223)).grownBy w1 u2.ownBlock →
       w1.ownsRow w.heap.size 223 2 v' (j + 1) (wds s st en (j + 1)) ∧ Below w.heap.size w w1 := fun v' w1 h g =>
      ⟨by rw [wds_succ]; exact h, (hB.alloc hB.size _).grown g (by simp; omega) (fun b e => (HO.out.lt b e).1)⟩
     have HK := Lib.hid key
     clear key
     have hnext : (j + 1 < n ∧ (en j = st (j + 1) ∨ (0 < j + 1 ∧ en j + 1 = st (j + 1)))) ∨ (j + 1 = n ∧ en j = s.size) := by
      by_cases hl : j + 1 < n
      ·exact .inl ⟨hl, .inr ⟨by omega, (W.nx j hl).symm⟩⟩
      ·refine .inr ⟨by omega, ?_⟩
       rw [← W.fin, show n - 1 = j by omega]
     have HN := Lib.hid hnext
     clear hnext
     have hOa := HO.out.alloc (.cells #[.string (s.extract (st j) (en j)), .int .i64 (st j)] 223)
     have hsz2 : (s.extract (st j) (en j)).size ≤ 65536 := by simp; omega
     by_cases hlast : en j < s.size
     ·have hjn1 : j + 1 < n := by
       rcases HN.out with ⟨h, _⟩ | ⟨_, h⟩
       ·exact h
       ·omega
      have b3 := W.blank j hjn1
      have e3 := bt_at hlast
      have d3 : (((((s[en j]'hlast).toNat : Nat) : Int)) != 32) = false := by rw [e3, b3]; rfl
      have d4 : decide ((en j : Int) < s.size) = true := by simp; omega
      clear e3 b3
      go_wp2_with (at_builtin; refine wpList_append_own_at _ rfl (.tmp 46) (.tmp 53) 146 rfl w.heap.size 223 i0 (.agg #[.string ⟨#[]⟩, .int .i64 0]) 2 24 Tryz.underlying146 hi hz0 hz1 hz2 rfl (by decide) u2 j _ rfl hOa ⟨_, 0, none⟩ 1 1 [.string (s.extract (st j) (en j)), .int .i64 (st j)] rfl rfl (lit2g _ _ _ _ _ rfl) (by intro x hx; simp at hx; rcases hx with rfl | rfl <;> rfl) (by unfold maxLen; omega) (by omega) (by simp; omega) ?_; intro v' w6 hown hgrow hnil hat; obtain ⟨h7, h8⟩ := HK.out v' w6 hown hgrow; have H7 := Lib.hid h7; clear hown hgrow hnil hat h7)
      go_roundw
      case rel => exact ⟨j + 1, en j, rfl, HN.out, H7.out, h8⟩
      case measure => simp [intOf]; omega
     ·have d4 : decide ((en j : Int) < s.size) = false := by simp; omega
      go_wp2_with (at_builtin; refine wpList_append_own_at _ rfl (.tmp 46) (.tmp 53) 146 rfl w.heap.size 223 i0 (.agg #[.string ⟨#[]⟩, .int .i64 0]) 2 24 Tryz.underlying146 hi hz0 hz1 hz2 rfl (by decide) u2 j _ rfl hOa ⟨_, 0, none⟩ 1 1 [.string (s.extract (st j) (en j)), .int .i64 (st j)] rfl rfl (lit2g _ _ _ _ _ rfl) (by intro x hx; simp at hx; rcases hx with rfl | rfl <;> rfl) (by unfold maxLen; omega) (by omega) (by simp; omega) ?_; intro v' w6 hown hgrow hnil hat; obtain ⟨h7, h8⟩ := HK.out v' w6 hown hgrow; have H7 := Lib.hid h7; clear hown hgrow hnil hat h7)
      go_roundw
      case rel => exact ⟨j + 1, en j, rfl, HN.out, H7.out, h8⟩
      case measure => simp [intOf]; omega
  ·have h1 := W.lt j hj
   have h2 := W.le j hj
   obtain ⟨j', rfl⟩ : ∃ j', j = j' + 1 := ⟨j - 1, by omega⟩
   have h3 := W.nx j' (by omega)
   obtain rfl : p = en j' := by omega
   have hlt : en j' < s.size := by omega
   have e0 := bt_at hlt
   have b1 := W.blank j' (by omega)
   have d1 : (((((s[en j']'hlt).toNat : Nat) : Int)) == 32) = true := by rw [e0, b1]; rfl
   clear e0 b1
   go_wp2
   go_roundw
   case rel => exact ⟨j' + 1, en j' + 1, by go_num, .inl ⟨hj, .inl h3.symm⟩, hO, hB⟩
   case measure => simp [intOf]; omega
  ·obtain ⟨g, cc, rfl⟩ : ∃ g cc, u2 = .slice (some ⟨g, 0, none⟩) j cc := by
    rcases hO.2 with ⟨_, h⟩ | ⟨g, cap, _, h, _⟩
    ·have := W.pos; omega
    ·exact ⟨g, cap, h⟩
   have HO := Lib.hid hO
   clear hO
   go_wp2
   go_ret
   exact ⟨⟨g, cc, rfl, HO.out⟩, hB⟩
end Go.Proofs.YtbhppbeepmllaaaGreatDoor

namespace Go.Proofs.YtbhppbeepmllaaaGreatDoor
open Go.RowKit

open Go.Lib in
theorem parseUintM_dec (M : Nat) (hM : M < 18446744073709551616) : ∀ (u : Nat) (r : List UInt8), u ≤ M → parseUintM M 0 (decDigits u ++ r) = parseUintM M u r := by
 intro u
 induction u using Nat.strongRecOn with
 | _ u ih =>
  intro r hu
  by_cases h : u < 10
  ·rw [decDigits, dif_pos h]
   have hc : (UInt8.ofNat (48 + u)).toNat = 48 + u := by simp; omega
   simp only [List.singleton_append, parseUintM, hc]
   rw [if_pos (by omega), if_neg (by omega), if_neg (by omega)]
   congr 1; omega
  ·rw [decDigits, dif_neg h, List.append_assoc, ih (u / 10) (by omega) _ (by omega)]
   have hc : (UInt8.ofNat (48 + u % 10)).toNat = 48 + u % 10 := by simp; omega
   simp only [List.singleton_append, parseUintM, hc]
   rw [if_pos (by omega), if_neg (by omega), if_neg (by omega)]
   congr 1; omega
open Go.Lib in
theorem decDigits_bytes (u : Nat) : ∀ c ∈ decDigits u, 48 ≤ c.toNat ∧ c.toNat ≤ 57 := by
 induction u using Nat.strongRecOn with
 | _ u ih =>
  intro c hc
  by_cases h : u < 10
  ·rw [decDigits, dif_pos h] at hc
   simp at hc; subst hc; simp; omega
  ·rw [decDigits, dif_neg h] at hc
   rcases List.mem_append.1 hc with h1 | h1
   ·exact ih (u / 10) (by omega) c h1
   ·simp at h1; subst h1; simp; omega
open Go.Lib in
theorem decDigits_ne (u : Nat) : decDigits u ≠ [] := by
 rw [decDigits]; split <;> simp
open Go.Lib in
theorem parse_itoa (n : Int) (h0 : -9223372036854775808 ≤ n) (h1 : n ≤ 9223372036854775807) : parseIntB 64 (itoa n) = .ok n := by
 unfold itoa
 by_cases h : n < 0
 ·rw [if_pos h]
  unfold parseIntB
  have e : parseUintB 64 (decDigits n.natAbs) = .ok n.natAbs := by
   unfold parseUintB
   rw [if_neg (decDigits_ne _)]
   have := parseUintM_dec (2 ^ 64 - 1) (by decide) n.natAbs [] (by omega)
   rw [List.append_nil] at this
   rw [this]; rfl
  have e45 : (45 : UInt8).toNat = 45 := rfl
  simp only [e45, or_true, if_true, e, not_true_eq_false, false_and, if_false, true_and]
  rw [if_neg (by omega)]
  congr 1; omega
 ·rw [if_neg h]
  have e : parseUintB 64 (decDigits n.toNat) = .ok n.toNat := by
   unfold parseUintB
   rw [if_neg (decDigits_ne _)]
   have := parseUintM_dec (2 ^ 64 - 1) (by decide) n.toNat [] (by omega)
   rw [List.append_nil] at this
   rw [this]; rfl
  cases hd : decDigits n.toNat with
  | nil => exact absurd hd (decDigits_ne _)
  | cons c r =>
   have hc := decDigits_bytes n.toNat c (by rw [hd]; simp)
   unfold parseIntB
   rw [hd] at e
   have n1 : ¬ c.toNat = 43 := by omega
   have n2 : ¬ c.toNat = 45 := by omega
   simp only [n1, n2, or_self, if_false, e, not_false_eq_true, true_and, false_and]
   rw [if_neg (show ¬ 2 ^ (64 - 1) ≤ n.toNat by omega)]
   congr 1; omega
open Go.Lib in
theorem itoa_bytes (n : Int) : ∀ c ∈ itoa n, c.toNat = 45 ∨ (48 ≤ c.toNat ∧ c.toNat ≤ 57) := by
 unfold itoa
 intro c hc
 split at hc
 ·rcases List.mem_cons.1 hc with rfl | h
  ·exact .inl rfl
  ·exact .inr (decDigits_bytes _ c h)
 ·exact .inr (decDigits_bytes _ c hc)
open Go.Lib in
theorem itoa_ne (n : Int) : itoa n ≠ [] := by
 unfold itoa; split
 ·simp
 ·exact decDigits_ne _
open Go.Lib in
theorem itoa_len (n : Int) (h0 : -9223372036854775808 ≤ n) (h1 : n ≤ 9223372036854775807) : (itoa n).length ≤ 20 := by
 have hd : ∀ u : Nat, u ≤ 9223372036854775808 → (decDigits u).length ≤ 19 := by
  intro u hu
  rw [decDigits_length]
  apply Nat.le_of_not_lt
  intro h
  have hp : ∀ (k u : Nat), k < nDigits u → 10 ^ k ≤ u ∨ k = 0 := by
   intro k
   induction k with
   | zero => intro u _; exact .inr rfl
   | succ k ih =>
    intro u hk
    by_cases h10 : u < 10
    ·rw [nDigits_small h10] at hk; omega
    ·rw [nDigits_big h10] at hk
     rcases ih (u / 10) (by omega) with h3 | h3
     ·left; rw [Nat.pow_succ]; omega
     ·left; subst h3; simp; omega
  rcases hp 19 u (by omega) with h3 | h3
  ·have : (10 : Nat) ^ 19 = 10000000000000000000 := by decide
   omega
  ·omega
 unfold itoa
 split
 ·simp only [List.length_cons]; have := hd n.natAbs (by omega); omega
 ·have := hd n.toNat (by omega); omega

def Tab (w : World) : Prop := Lib.TabIs Tryz.prog w "internal/strconv.uint64pow10" .u64 Lib.pow10Tab
theorem tabBlock : ∃ g, Tryz.prog.globalNamed "internal/strconv.uint64pow10" = some g ∧ ∀ w, Tab w → g < w.heap.size := by
 refine ⟨4, by kernel_rfl, ?_⟩
 intro w h
 unfold Tab Lib.TabIs World.var? at h
 rw [show Tryz.prog.globalNamed "internal/strconv.uint64pow10" = some 4 by kernel_rfl] at h
 simp only [Option.bind_some] at h
 cases hg : w.heap[4]? with
 | none => rw [hg] at h; cases h
 | some o => exact lt_of_block hg
theorem Tab.lt {w : World} (h : Tab w) : 4 < w.heap.size := by
 unfold Tab Lib.TabIs World.var? at h
 rw [show Tryz.prog.globalNamed "internal/strconv.uint64pow10" = some 4 by kernel_rfl] at h
 simp only [Option.bind_some] at h
 cases hg : w.heap[4]? with
 | none => rw [hg] at h; cases h
 | some o => exact lt_of_block hg
theorem Tab.keep {w w' : World} (h : Tab w) (he : w'.heap[4]? = w.heap[4]?) : Tab w' := by
 unfold Tab Lib.TabIs World.var? at h ⊢
 rw [show Tryz.prog.globalNamed "internal/strconv.uint64pow10" = some 4 by kernel_rfl] at h ⊢
 simp only [Option.bind_some] at h ⊢
 rw [he]; exact h
theorem Tab.below {w w' : World} {B : Nat} (h : Tab w) (hb : Below B w w') (hB : 4 < B) : Tab w' := h.keep (hb.block 4 hB)
open Go.Sort in
theorem below_grow (w : World) (k : Nat) (os : Array Obj) : Below w.heap.size w (grow (w.drewN k) os) := by
 refine ⟨rfl, rfl, rfl, by simp [grow], fun j hj => ?_⟩
 simp only [grow]
 rw [Array.getElem?_append_left (by simpa using hj)]
 simp
theorem below_bytes (w : World) (e : TypeId) (s : ByteArray) : Below w.heap.size w (Lib.bytesWorld w e s) := by
 refine ⟨rfl, rfl, rfl, ?_, fun j hj => Lib.bytesWorld_at_old w e s j hj⟩
 simp [Lib.bytesWorld, World.freeze, World.alloc, World.drew, -World.alloc_eq, -World.drew_eq]
theorem numberOf_any (n : Int) (s : ByteArray) (w : World) (h0 : -9223372036854775808 ≤ n) (h1 : n ≤ 9223372036854775807) (hs : s.data.toList = Lib.itoa n) (ht : Tab w) :
  Calls Tryz.prog 147 #[.string s] w fun e w' => e = .returned (.tuple #[.int .i64 n, .bool true]) ∧ Below w.heap.size w w' := by
 have hl := itoa_len n h0 h1
 have hsz : s.size ≤ 20 := by rw [← hs] at hl; simpa using hl
 have HP := Lib.hid (Tryz.strconv_ParseInt_10_at64_ok s (by omega) n (by rw [hs]; exact parse_itoa n h0 h1) w)
 have HF := Lib.hid fun w ht => Tryz.strconv_FormatInt_10 n h0 h1 w ht
 have hse : (⟨(Lib.itoa n).toArray⟩ : ByteArray) = s := by rw [← hs]
 rw [hse] at HF
 have h4 := ht.lt
 clear hse hs hl
 go_enter Tryz.func147, Tryz.ntmps147
 go_wp2_with fail
 refine HP.out.mono ?_
 rintro e w1 ⟨rfl, hw⟩
 have hb : Below w.heap.size w w1 := by
  rcases hw with rfl | ⟨t, rfl⟩
  ·exact Below.refl _ _
  ·exact below_bytes w 5 t
 clear hw HP
 go_wp2_with fail
 refine (HF.out _ (ht.below hb h4)).mono ?_
 rintro e w2 ⟨rfl, k, os, rfl⟩
 have hb2 := below_grow w1 k os
 go_wp2_with fail
 go_ret2
 exact ⟨by simp, hb.trans (hb2.mono hb.size)⟩
end Go.Proofs.YtbhppbeepmllaaaGreatDoor

namespace Go.Proofs.YtbhppbeepmllaaaGreatDoor
open Go.RowKit

def num : List Nat → Nat
 | [] => 0
 | d :: r => d + 65536 * num r
def digs : Nat → Nat → List Nat
 | 0, _ => []
 | k + 1, n => n % 65536 :: digs k (n / 65536)
theorem digs_len : ∀ k n, (digs k n).length = k
 | 0, _ => rfl
 | k + 1, n => by simp [digs, digs_len k]
theorem digs_lt : ∀ k n d, d ∈ digs k n → d < 65536
 | 0, n, d, h => by simp [digs] at h
 | k + 1, n, d, h => by
  simp only [digs, List.mem_cons] at h
  rcases h with rfl | h
  ·exact Nat.mod_lt _ (by decide)
  ·exact digs_lt k _ d h
theorem num_digs : ∀ k n, num (digs k n) = n % 65536 ^ k
 | 0, n => by simp [digs, num, Nat.mod_one]
 | k + 1, n => by
  simp only [digs, num, num_digs k]
  rw [Nat.pow_succ, Nat.mul_comm (65536 ^ k) 65536, Nat.mod_mul]
theorem digs_num : ∀ (l : List Nat), (∀ d ∈ l, d < 65536) → digs l.length (num l) = l
 | [], _ => rfl
 | d :: r, h => by
  have hd := h d (by simp)
  simp only [List.length_cons, digs, num]
  rw [show (d + 65536 * num r) % 65536 = d by omega, show (d + 65536 * num r) / 65536 = num r by omega, digs_num r (fun x hx => h x (by simp [hx]))]
theorem num_lt : ∀ (l : List Nat), (∀ d ∈ l, d < 65536) → num l < 65536 ^ l.length
 | [], _ => by simp [num]
 | d :: r, h => by
  have hd := h d (by simp)
  have := num_lt r (fun x hx => h x (by simp [hx]))
  simp only [num, List.length_cons, Nat.pow_succ]
  omega
theorem num_append : ∀ (a b : List Nat), num (a ++ b) = num a + 65536 ^ a.length * num b
 | [], b => by simp [num]
 | d :: r, b => by
  simp only [List.cons_append, num, num_append r b, List.length_cons, Nat.pow_succ]
  rw [Nat.mul_add, ← Nat.mul_assoc 65536 (65536 ^ r.length), Nat.mul_comm 65536 (65536 ^ r.length)]
  omega
theorem num_zeros : ∀ k, num (List.replicate k 0) = 0
 | 0 => rfl
 | k + 1 => by simp [List.replicate_succ, num, num_zeros k]
theorem num_snoc (a : List Nat) (d : Nat) : num (a ++ [d]) = num a + 65536 ^ a.length * d := by
 rw [num_append]; simp [num]
theorem num_take (l : List Nat) (i : Nat) (h : i < l.length) : num (l.take (i + 1)) = num (l.take i) + 65536 ^ i * l.getD i 0 := by
 rw [List.take_succ_eq_append_getElem h, num_snoc, List.length_take, Nat.min_eq_left (by omega)]
 simp [List.getD_eq_getElem?_getD, List.getElem?_eq_getElem h]
theorem num_set : ∀ (l : List Nat) (i v : Nat), i < l.length → num (l.set i v) + 65536 ^ i * l.getD i 0 = num l + 65536 ^ i * v
 | [], i, v, h => by simp at h
 | d :: r, 0, v, h => by simp [num]; omega
 | d :: r, i + 1, v, h => by
  have ih := num_set r i v (by simpa using h)
  simp only [List.set_cons_succ, num, List.getD_cons_succ, Nat.pow_succ]
  have e1 : 65536 ^ i * 65536 * r.getD i 0 = 65536 * (65536 ^ i * r.getD i 0) := by rw [Nat.mul_comm (65536 ^ i) 65536, Nat.mul_assoc]
  have e2 : 65536 ^ i * 65536 * v = 65536 * (65536 ^ i * v) := by rw [Nat.mul_comm (65536 ^ i) 65536, Nat.mul_assoc]
  rw [e1, e2]
  omega
def longD (n : Int) : List Nat := digs 10 (n % 1461501637330902918203684832716283019655932542976).toNat
theorem longD_len (n : Int) : (longD n).length = 10 := digs_len _ _
theorem longD_lt (n : Int) : ∀ d ∈ longD n, d < 65536 := digs_lt _ _
theorem longD_num (n : Int) : (num (longD n) : Int) = n % 1461501637330902918203684832716283019655932542976 := by
 unfold longD
 rw [num_digs]
 have h1 := Int.emod_nonneg n (b := 1461501637330902918203684832716283019655932542976) (by decide)
 have h2 := Int.emod_lt_of_pos n (b := 1461501637330902918203684832716283019655932542976) (by decide)
 have e : (65536 : Nat) ^ 10 = 1461501637330902918203684832716283019655932542976 := by decide
 rw [e, Nat.mod_eq_of_lt (by omega)]
 omega
theorem longD_eq (l : List Nat) (n : Int) (hl : l.length = 10) (hd : ∀ d ∈ l, d < 65536) (h : ((num l : Nat) : Int) % 1461501637330902918203684832716283019655932542976 = n % 1461501637330902918203684832716283019655932542976) : l = longD n := by
 have h1 := num_lt l hd
 rw [hl, show (65536 : Nat) ^ 10 = 1461501637330902918203684832716283019655932542976 by decide] at h1
 have h2 := digs_num l hd
 rw [hl] at h2
 generalize num l = v at h h1 h2
 have e : (n % 1461501637330902918203684832716283019655932542976).toNat = v := by
  rw [← h, Int.emod_eq_of_lt (by omega) (by omega)]; omega
 unfold longD
 rw [e, h2]
def arrL (l : List Nat) : Array Value := (l.map fun d : Nat => Value.int IntKind.i64 (d : Int)).toArray
def longOf (n : Int) : Value := .agg (arrL (longD n))
theorem longD_top (n : Int) (h1 : -730750818665451459101842416358141509827966271488 ≤ n) (h2 : n < 730750818665451459101842416358141509827966271488) : decide ((32768 : Int) ≤ ((longD n).getD 9 0 : Nat)) = decide (n < 0) := by
 have hl := longD_len n
 have hn := longD_num n
 have ht := num_take (longD n) 9 (by omega)
 rw [List.take_of_length_le (by omega)] at ht
 have h9 := num_lt ((longD n).take 9) (fun d hd => longD_lt n d (List.mem_of_mem_take hd))
 rw [List.length_take, hl, show min 9 10 = 9 by decide, show (65536 : Nat) ^ 9 = 22300745198530623141535718272648361505980416 by decide] at h9
 rw [show (65536 : Nat) ^ 9 = 22300745198530623141535718272648361505980416 by decide] at ht
 generalize (longD n).getD 9 0 = t at ht ⊢
 generalize num ((longD n).take 9) = u at ht h9
 generalize num (longD n) = v at ht hn
 by_cases h : n < 0
 ·rw [decide_eq_true h]; simp; omega
 ·rw [decide_eq_false h]; simp; omega
end Go.Proofs.YtbhppbeepmllaaaGreatDoor

namespace Go.Proofs.YtbhppbeepmllaaaGreatDoor
open Go.RowKit

structure RdSt (w : World) (rb g cc : Nat) (s : ByteArray) (n : Nat) (st en : Nat → Nat) (at_ : Nat) : Prop where
 hd : w.heap[rb]? = some (.cells #[.slice (some ⟨g, 0, none⟩) n cc, .int .i64 at_, .int .i64 (-1), .int .i64 s.size] 149 (0, 0))
 row : w.ownsRow 0 223 2 (.slice (some ⟨g, 0, none⟩) n cc) n (wds s st en n)
theorem RdSt.below {w w' : World} {rb g cc : Nat} {s : ByteArray} {n : Nat} {st en : Nat → Nat} {at_ : Nat} (S : RdSt w rb g cc s n st en at_) (hb : Below w.heap.size w w') : RdSt w' rb g cc s n st en at_ :=
 ⟨(hb.block _ (lt_of_block S.hd)).trans S.hd, own_below S.row hb⟩
theorem RdSt.step {w : World} {rb g cc : Nat} {s : ByteArray} {n : Nat} {st en : Nat → Nat} {at_ : Nat} (S : RdSt w rb g cc s n st en at_) (v : Int) (hv : v = ((at_ + 1 : Nat) : Int)) : RdSt (w.setCell ⟨rb, 1, none⟩ (.int .i64 v)) rb g cc s n st en (at_ + 1) := by
 subst hv
 refine ⟨by simpa using heap_setCell_same _ _ 1 _ _ (.int .i64 ((at_ + 1 : Nat) : Int)) S.hd, ?_⟩
 exact S.row.kept (grown_set w rb 1 _) (.inr (own_ne_kind S.row S.hd (by decide)))
theorem RdSt.other {w : World} {rb g cc : Nat} {s : ByteArray} {n : Nat} {st en : Nat → Nat} {at_ : Nat} (S : RdSt w rb g cc s n st en at_) (b o : Nat) {v : Value} (h1 : rb ≠ b) (h2 : g ≠ b) : RdSt (w.setCell ⟨b, o, none⟩ v) rb g cc s n st en at_ :=
 ⟨(heap_setCell_other _ _ _ _ h1).trans S.hd, S.row.kept (grown_set w b o v) (.inr (by intro e; exact h2 (Option.some.inj e)))⟩
theorem grown_new {w a : World} {r : Option Nat} (h : w.grownBy a r) (b o : Nat) (v : Value) (hb : w.heap.size ≤ b) : w.grownBy (a.setCell ⟨b, o, none⟩ v) r :=
 ⟨h.os, h.tape, h.output, by have := h.size; simpa using this, fun k hk hr => (heap_setCell_other _ _ _ _ (by dsimp only; omega)).trans (h.block k hk hr)⟩
theorem next_any (rb g cc : Nat) (s : ByteArray) (n : Nat) (st en : Nat → Nat) (at_ : Nat) (w : World) (S : RdSt w rb g cc s n st en at_) (ha : at_ < n) (hn : n ≤ 65536) :
  Calls Tryz.prog 103 #[.pointer (some ⟨rb, 0, none⟩)] w fun e w' => e = .returned (.string (s.extract (st at_) (en at_))) ∧ Below w.heap.size w w' := by
 have q0 : w.cell? ⟨rb, 0, none⟩ = some (.slice (some ⟨g, 0, none⟩) n cc) := cell_of_heap S.hd 0 _ rfl
 have q1 : w.cell? ⟨rb, 1, none⟩ = some (.int .i64 at_) := cell_of_heap S.hd 1 _ rfl
 have q2 : w.cell? ⟨rb, 2, none⟩ = some (.int .i64 (-1)) := cell_of_heap S.hd 2 _ rfl
 obtain ⟨a1, a2⟩ := wds_at s st en n at_ ha
 have c1 := (S.row.cellAt (at_ * 2) (by omega)).trans a1
 have d1 : decide ((n : Int) ≤ at_) = false := by simp; omega
 have d2 : ((at_ : Nat) : Int) < n := by omega
 generalize s.extract (st at_) (en at_) = x at *
 clear a1 a2
 have HS := Lib.hid S
 clear S
 go_enter Tryz.func103, Tryz.ntmps103
 go_wp2_with fail
 go_quiet (fail)
 go_wp2_with fail
 go_quiet (fail)
 go_wp2
 go_ret
 exact ⟨rfl, by first | exact (below_drewN (below_drewN (Below.refl _ _) _) _) | (repeat' (first | exact Below.refl _ _ | apply below_drewN))⟩
theorem num_any (rb g cc : Nat) (s : ByteArray) (n : Nat) (st en : Nat → Nat) (at_ : Nat) (k : Int) (w : World) (S : RdSt w rb g cc s n st en at_) (ha : at_ < n) (hn : n ≤ 65536) (h0 : -9223372036854775808 ≤ k) (h1 : k ≤ 9223372036854775807)
  (hk : (s.extract (st at_) (en at_)).data.toList = Lib.itoa k) (ht : Tab w) :
  Calls Tryz.prog 106 #[.pointer (some ⟨rb, 0, none⟩)] w fun e w' => e = .returned (.int .i64 k) ∧ RdSt w' rb g cc s n st en (at_ + 1) ∧ w.grownBy w' (some rb) := by
 have HN := Lib.hid (next_any rb g cc s n st en at_ w S ha hn)
 have HM := Lib.hid fun w ht => numberOf_any k (s.extract (st at_) (en at_)) w h0 h1 hk ht
 have h4 := ht.lt
 clear hk
 generalize s.extract (st at_) (en at_) = x at *
 go_enter Tryz.func106, Tryz.ntmps106
 go_wp2_with fail
 refine HN.out.mono ?_
 rintro e w1 ⟨rfl, hb⟩
 have t1 := ht.below hb h4
 clear HN
 go_wp2_with fail
 refine (HM.out _ t1).mono ?_
 rintro e w2 ⟨rfl, hb2⟩
 have kb := hb.trans (hb2.mono hb.size)
 have S2 := S.below kb
 have q1 : w2.cell? ⟨rb, 1, none⟩ = some (.int .i64 at_) := cell_of_heap S2.hd 1 _ rfl
 have f1 : w2.frozen? ⟨rb, 1, none⟩ = false := by simp [World.frozen?, S2.hd]
 have HS := Lib.hid S2
 clear S S2 hb hb2 HM
 go_wp2
 go_ret
 exact ⟨rfl, HS.out.step _ (by omega), grown_trans (grown_of_below kb _) (grown_set _ _ _ _)⟩
structure NumsAt (s : ByteArray) (n : Nat) (st en : Nat → Nat) (a m : Nat) (ks : Nat → Int) : Prop where
 le : a + m ≤ n
 lo : ∀ i, i < m → -9223372036854775808 ≤ ks i ∧ ks i ≤ 9223372036854775807
 is : ∀ i, i < m → (s.extract (st (a + i)) (en (a + i))).data.toList = Lib.itoa (ks i)
theorem nums_any (rb g cc : Nat) (s : ByteArray) (n : Nat) (st en : Nat → Nat) (at_ m : Nat) (ks : Nat → Int) (w : World) (S : RdSt w rb g cc s n st en at_) (hn : n ≤ 65536) (hm : 1 ≤ m) (hm2 : m ≤ 10) (N : NumsAt s n st en at_ m ks) (ht : Tab w) (h4 : 4 < rb) :
  Calls Tryz.prog 104 #[.pointer (some ⟨rb, 0, none⟩), .int .i64 m] w fun e w' => (∃ g' c', e = .returned (.slice (some ⟨g', 0, none⟩) m c') ∧ w.heap.size ≤ g' ∧ w'.ownsRow w.heap.size 2 1 (.slice (some ⟨g', 0, none⟩) m c') m (i64s ((List.range m).map ks))) ∧ RdSt w' rb g cc s n st en (at_ + m) ∧ w.grownBy w' (some rb) := by
 obtain ⟨i0, hi, hz0, hz1, hz2⟩ := info_parts Tryz.info2
 have HN := Lib.hid N
 have hle := N.le
 clear N
 go_enter Tryz.func104, Tryz.ntmps104
 go_wp2_with (at_make; refine wpList_make_full _ rfl (.tmp 7) (.tmp 7) 34 rfl w.heap.size 2 i0 (.int .i64 0) 1 Tryz.underlying34 hi hz0 hz1 .i64 .i64 m m m rfl rfl (by omega) (by omega) (by rw [hz2]; omega) (by unfold maxLen; omega) (by omega) ?_; intro w2 hown hgrow)
 simp only [Value.cells, Nat.mul_one, toList_madeCells_one] at hown
 have hB2 := below_of_grown hgrow
 have S2 := S.below hB2
 have hlr := lt_of_block S.hd
 have hlg := ints_lt2 S.row
 clear hgrow S
 go_loopw [11] (fun i wr => ∃ k : Nat, k ≤ m ∧ i = .int .i64 k ∧ wr.ownsRow w.heap.size 2 1 (.slice (some ⟨w.heap.size, 0, none⟩) m m) m (i64s ((List.range k).map ks) ++ List.replicate (m - k) (.int .i64 0)) ∧ RdSt wr rb g cc s n st en (at_ + k) ∧ w.grownBy wr (some rb)) (fun i _ => m - (intOf i).toNat)
 case atStart => exact ⟨0, by omega, rfl, by simpa using hown, S2, grown_of_below hB2 _⟩
 case round =>
  obtain ⟨k, hk, rfl, hO, hS, hG⟩ := hrel
  by_cases hlt : k < m
  ·have htr : Tab wr := ht.keep (hG.block 4 ht.lt (by intro e; have := Option.some.inj e; omega))
   have HA := Lib.hid (num_any rb g cc s n st en (at_ + k) (ks k) wr hS (by omega) hn (HN.out.lo k hlt).1 (HN.out.lo k hlt).2 (HN.out.is k hlt) htr)
   have HO := Lib.hid hO
   clear hO hS htr
   go_wp2_with fail
   refine HA.out.mono ?_
   rintro e w3 ⟨rfl, hS3, hg3⟩
   have hO3 := HO.out.kept hg3 (.inr (by intro e; have : w.heap.size = rb := Option.some.inj e; omega))
   have hlen : (i64s ((List.range k).map ks) ++ List.replicate (m - k) (Value.int .i64 0)).length = m := by simp; omega
   obtain ⟨u, hu⟩ : ∃ u, (i64s ((List.range k).map ks) ++ List.replicate (m - k) (Value.int .i64 0))[k]? = some u := ⟨_, List.getElem?_eq_getElem (by rw [hlen]; exact hlt)⟩
   have hcell := (hO3.cellAt k (by omega)).trans hu
   have hfr := hO3.frozenAt k
   have hset : (i64s ((List.range k).map ks) ++ List.replicate (m - k) (Value.int .i64 0)).set k (.int .i64 (ks k)) = i64s ((List.range (k + 1)).map ks) ++ List.replicate (m - (k + 1)) (.int .i64 0) := by
    rw [List.set_append_right _ _ (by simp)]
    simp only [List.length_map, List.length_range, Nat.sub_self]
    rw [show m - k = (m - (k + 1)) + 1 by omega, List.replicate_succ, List.set_cons_zero, List.range_succ]
    simp
   have hst := (hO3.stored k (.int .i64 (ks k))).1
   rw [hset] at hst
   have HST := Lib.hid hst
   have HS3 := Lib.hid hS3
   clear hst hset hu hlen hS3 hO3 HA
   generalize ks k = x at *
   go_wp2
   go_roundw
   case rel => exact ⟨k + 1, by omega, by go_num, HST.out, HS3.out.other _ _ (by omega) (by omega), grown_new (grown_trans hG hg3) _ _ _ (Nat.le_refl _)⟩
   case measure => simp [intOf]; omega
  ·obtain rfl : k = m := by omega
   have e0 : i64s ((List.range k).map ks) ++ List.replicate (k - k) (Value.int .i64 0) = i64s ((List.range k).map ks) := by simp
   rw [e0] at hO
   have HO := Lib.hid hO
   have HS := Lib.hid hS
   clear hO hS
   go_wp2
   go_ret
   exact ⟨⟨_, _, rfl, Nat.le_refl _, HO.out⟩, HS.out, hG⟩
end Go.Proofs.YtbhppbeepmllaaaGreatDoor

namespace Go.Proofs.YtbhppbeepmllaaaGreatDoor
open Go.RowKit

theorem named_no (s : ByteArray) (w : World) (h : s.size < 2 ∨ bt s 0 ≠ 34) (hs : s.size ≤ 65536) :
  Calls Tryz.prog 145 #[.string s] w fun e w' => e = .returned (.tuple #[.string ⟨#[]⟩, .bool false]) ∧ w = w' := by
 by_cases h2 : s.size < 2
 ·have d : decide ((s.size : Int) < 2) = true := by simp; omega
  go_enter Tryz.func145, Tryz.ntmps145
  go_wp2
  go_ret2
  exact ⟨rfl, rfl⟩
 ·have d : decide ((s.size : Int) < 2) = false := by simp; omega
  have h0 : 0 < s.size := by omega
  have hb : bt s 0 ≠ 34 := by rcases h with h | h; omega; exact h
  have e0 := bt_at h0
  have d1 : (((((s[0]'h0).toNat : Nat) : Int)) != 34) = true := by rw [e0]; simp; omega
  clear e0 hb h
  go_enter Tryz.func145, Tryz.ntmps145
  go_wp2
  go_ret2
  exact ⟨rfl, rfl⟩
theorem five_cells {w : World} {b : Nat} {a0 a1 a2 a3 a4 : Value} {t : TypeId} (h : w.heap[b]? = some (.cells #[a0, a1, a2, a3, a4] t (0, 0))) (x0 x1 x2 x3 x4 : Value) :
  (((((w.setCell ⟨b, 0, none⟩ x0).setCell ⟨b, 1, none⟩ x1).setCell ⟨b, 2, none⟩ x2).setCell ⟨b, 3, none⟩ x3).setCell ⟨b, 4, none⟩ x4).heap[b]? = some (.cells #[x0, x1, x2, x3, x4] t (0, 0)) := by
 have h0 := heap_setCell_same _ _ 0 _ _ x0 h
 have h1 := heap_setCell_same _ _ 1 _ _ x1 h0
 have h2 := heap_setCell_same _ _ 2 _ _ x2 h1
 have h3 := heap_setCell_same _ _ 3 _ _ x3 h2
 have h4 := heap_setCell_same _ _ 4 _ _ x4 h3
 simpa using h4
theorem rdAdd_any (rb g cc : Nat) (s : ByteArray) (n : Nat) (st en : Nat → Nat) (at_ : Nat) (ks : Nat → Int) (w : World) (S : RdSt w rb g cc s n st en at_) (hn : n ≤ 65536) (N : NumsAt s n st en at_ 3 ks) (hk : 0 ≤ ks 1) (hq : (s.extract (st (at_ + 1)) (en (at_ + 1))).size < 2 ∨ bt (s.extract (st (at_ + 1)) (en (at_ + 1))) 0 ≠ 34) (ht : Tab w) (h4 : 4 < rb) :
  Calls Tryz.prog 105 #[.pointer (some ⟨rb, 0, none⟩)] w fun e w' => e = .returned (.agg #[.int .i64 (ks 0), .bool false, .string ⟨#[]⟩, .int .u64 (ks 1), .int .i64 (ks 2)]) ∧ RdSt w' rb g cc s n st en (at_ + 3) ∧ w.grownBy w' (some rb) := by
 have hle := N.le
 have hk2 : IntKind.u64.wrap (ks 1) = ks 1 := by have := N.lo 1 (by omega); rw [IntKind.wrap_u64]; omega
 have hsz : (s.extract (st (at_ + 1)) (en (at_ + 1))).size ≤ 65536 := by
  have := itoa_len (ks 1) (N.lo 1 (by omega)).1 (N.lo 1 (by omega)).2
  rw [← N.is 1 (by omega)] at this
  simp at this ⊢; omega
 have H1 := Lib.hid fun w S ht => num_any rb g cc s n st en at_ (ks 0) w S (by omega) hn (N.lo 0 (by omega)).1 (N.lo 0 (by omega)).2 (N.is 0 (by omega)) ht
 have HX := Lib.hid fun w S => next_any rb g cc s n st en (at_ + 1) w S (by omega) hn
 have HQ := Lib.hid fun w => named_no _ w hq hsz
 have H2 := Lib.hid fun w S ht => num_any rb g cc s n st en (at_ + 1) (ks 1) w S (by omega) hn (N.lo 1 (by omega)).1 (N.lo 1 (by omega)).2 (N.is 1 (by omega)) ht
 have H3 := Lib.hid fun w S ht => num_any rb g cc s n st en (at_ + 1 + 1) (ks 2) w S (by omega) hn (N.lo 2 (by omega)).1 (N.lo 2 (by omega)).2 (N.is 2 (by omega)) ht
 have hlr := lt_of_block S.hd
 have hlg : g < w.heap.size := ints_lt2 S.row
 have h4t := ht.lt
 clear N hk hq hsz
 generalize s.extract (st (at_ + 1)) (en (at_ + 1)) = x at HX HQ
 have hb0 : Below w.heap.size w (w.alloc (.cells #[.int .i64 0, .bool false, .string ⟨#[]⟩, .int .u64 0, .int .i64 0] 162)) := (Below.refl _ _).alloc (Nat.le_refl _) _
 go_enter Tryz.func105, Tryz.ntmps105
 go_wp2_with fail
 refine (H1.out _ (S.below hb0) (ht.below hb0 h4t)).mono ?_
 rintro e w1 ⟨rfl, hS1, hg1⟩
 have hr1 : w1.heap[w.heap.size]? = some (.cells #[.int .i64 0, .bool false, .string ⟨#[]⟩, .int .u64 0, .int .i64 0] 162 (0, 0)) := (hg1.block _ (by simp) (by intro e; have : w.heap.size = rb := Option.some.inj e; omega)).trans (heap_alloc_at _ rfl)
 have HS1 := Lib.hid hS1
 clear hS1
 go_wp2_with fail
 have g1w : w.grownBy w1 (some rb) := grown_trans (grown_of_below hb0 _) hg1
 have szw1 : w.heap.size < w1.heap.size := by have := lt_of_block hr1; exact this
 have kA : Below w1.heap.size w1 (w1.alloc (.cells #[.int .i64 (ks 0), .bool false, .string ⟨#[]⟩, .int .u64 0, .int .i64 0] 162)) := (Below.refl _ _).alloc (Nat.le_refl _) _
 refine (HX.out _ (HS1.out.below kA)).mono ?_
 rintro e w2 ⟨rfl, hb2⟩
 have kB := kA.trans (hb2.mono kA.size)
 have hr2 : w2.heap[w1.heap.size]? = some (.cells #[.int .i64 (ks 0), .bool false, .string ⟨#[]⟩, .int .u64 0, .int .i64 0] 162 (0, 0)) := (hb2.block _ (by simp)).trans (heap_alloc_at _ rfl)
 clear HX H1 kA hb2 hg1
 go_wp2_with fail
 refine (HQ.out _).mono ?_
 rintro e w3 ⟨rfl, rfl⟩
 clear HQ
 go_wp2_with fail
 refine (H2.out _ (HS1.out.below kB) ?tb).mono ?_
 case tb => exact ht.keep ((kB.block 4 (by omega)).trans (g1w.block 4 h4t (by intro e; have := Option.some.inj e; omega)))
 rintro e w3 ⟨rfl, hS3, hg3⟩
 have hr3 := (hg3.block _ (lt_of_block hr2) (by intro e; have : w1.heap.size = rb := Option.some.inj e; omega)).trans hr2
 have hrA := (kB.block _ szw1).trans hr1
 have hrB := (hg3.block _ (lt_of_block hrA) (by intro e; have : w.heap.size = rb := Option.some.inj e; omega)).trans hrA
 have g3w : w.grownBy w3 (some rb) := grown_trans g1w (grown_trans (grown_of_below kB _) hg3)
 have HS3 := Lib.hid hS3
 have q3 : w3.cell? ⟨w1.heap.size, 3, none⟩ = some (.int .u64 0) := cell_of_heap hr3 3 _ rfl
 have f3 : w3.frozen? ⟨w1.heap.size, 3, none⟩ = false := by simp [World.frozen?, hr3]
 have lr3 := lt_of_block hr3
 have hset := heap_setCell_same _ _ 3 _ _ (.int .u64 (ks 1)) hr3
 simp at hset
 have HSET := Lib.hid hset
 clear hS3 hset hr1 hr2 hrA H2 kB hg3
 go_wp2_with fail
 obtain ⟨W4, hW4⟩ : ∃ W4, w3.setCell ⟨w1.heap.size, 3, none⟩ (.int .u64 (ks 1)) = W4 := ⟨_, rfl⟩
 have hr4 : W4.heap[w1.heap.size]? = some (.cells #[.int .i64 (ks 0), .bool false, .string ⟨#[]⟩, .int .u64 (ks 1), .int .i64 0] 162 (0, 0)) := by rw [← hW4]; exact HSET.out
 have hrC : W4.heap[w.heap.size]? = some (.cells #[.int .i64 0, .bool false, .string ⟨#[]⟩, .int .u64 0, .int .i64 0] 162 (0, 0)) := by rw [← hW4]; exact (heap_setCell_other _ _ _ _ (by dsimp only; omega)).trans hrB
 have hS4 : RdSt W4 rb g cc s n st en (at_ + 1 + 1) := by rw [← hW4]; exact HS3.out.other _ _ (by omega) (by omega)
 have g4w : w.grownBy W4 (some rb) := by rw [← hW4]; exact grown_new g3w _ _ _ (by omega)
 rw [hW4]
 clear hW4 q3 f3 hr3 hrB HSET HS3 g3w g1w
 refine (H3.out _ hS4 (ht.keep (g4w.block 4 h4t (by intro e; have := Option.some.inj e; omega)))).mono ?_
 rintro e w5 ⟨rfl, hS5, hg5⟩
 have hr5 := (hg5.block _ (lt_of_block hr4) (by intro e; have : w1.heap.size = rb := Option.some.inj e; omega)).trans hr4
 have hrD := (hg5.block _ (lt_of_block hrC) (by intro e; have : w.heap.size = rb := Option.some.inj e; omega)).trans hrC
 have g5w := grown_trans g4w hg5
 have HS5 := Lib.hid hS5
 have q4 : w5.cell? ⟨w1.heap.size, 4, none⟩ = some (.int .i64 0) := cell_of_heap hr5 4 _ rfl
 have f4 : w5.frozen? ⟨w1.heap.size, 4, none⟩ = false := by simp [World.frozen?, hr5]
 have r0 : w5.cell? ⟨w1.heap.size, 0, none⟩ = some (.int .i64 (ks 0)) := cell_of_heap hr5 0 _ rfl
 have r1 : w5.cell? ⟨w1.heap.size, 1, none⟩ = some (.bool false) := cell_of_heap hr5 1 _ rfl
 have r2 : w5.cell? ⟨w1.heap.size, 2, none⟩ = some (.string ⟨#[]⟩) := cell_of_heap hr5 2 _ rfl
 have r3 : w5.cell? ⟨w1.heap.size, 3, none⟩ = some (.int .u64 (ks 1)) := cell_of_heap hr5 3 _ rfl
 have lr5 := lt_of_block hr5
 have lrD := lt_of_block hrD
 have z : ∀ o, w5.frozen? ⟨w.heap.size, o, none⟩ = false := fun o => by simp [World.frozen?, hrD]
 have z0 := z 0
 have z1 := z 1
 have z2 := z 2
 have z3 := z 3
 have z4 := z 4
 have y0 : w5.cell? ⟨w.heap.size, 0, none⟩ = some (.int .i64 0) := cell_of_heap hrD 0 _ rfl
 have y1 : w5.cell? ⟨w.heap.size, 1, none⟩ = some (.bool false) := cell_of_heap hrD 1 _ rfl
 have y2 : w5.cell? ⟨w.heap.size, 2, none⟩ = some (.string ⟨#[]⟩) := cell_of_heap hrD 2 _ rfl
 have y3 : w5.cell? ⟨w.heap.size, 3, none⟩ = some (.int .u64 0) := cell_of_heap hrD 3 _ rfl
 have y4 : w5.cell? ⟨w.heap.size, 4, none⟩ = some (.int .i64 0) := cell_of_heap hrD 4 _ rfl
 have nab : ¬ w1.heap.size = w.heap.size := by omega
 have nba : ¬ w.heap.size = w1.heap.size := by omega
 have HH := Lib.hid (And.intro hr5 hrD)
 have HG := Lib.hid g5w
 clear g5w
 clear z hS5 hr5 hrD hr4 hrC H3 hg5 hS4 g4w
 go_wp2_with fail
 obtain ⟨hr5, hrD⟩ := HH.out
 have hE := five_cells (w := w5.setCell ⟨w1.heap.size, 4, none⟩ (.int .i64 (ks 2))) ((heap_setCell_other _ _ _ _ (by dsimp only; omega)).trans hrD) (.int .i64 (ks 0)) (.bool false) (.string ⟨#[]⟩) (.int .u64 (ks 1)) (.int .i64 (ks 2))
 have e0 := cell_of_heap hE 0 _ rfl
 have e1 := cell_of_heap hE 1 _ rfl
 have e2 := cell_of_heap hE 2 _ rfl
 have e3 := cell_of_heap hE 3 _ rfl
 have e4 := cell_of_heap hE 4 _ rfl
 exact bodyPost_ret (v := .agg #[.int .i64 (ks 0), .bool false, .string ⟨#[]⟩, .int .u64 (ks 1), .int .i64 (ks 2)]) (by simp only [results, Tryz.results105, go_sem]; simp [go_sem, e0, e1, e2, e3, e4]) rfl ⟨rfl, (((((HS5.out.other _ _ (by omega) (by omega)).other _ _ (by omega) (by omega)).other _ _ (by omega) (by omega)).other _ _ (by omega) (by omega)).other _ _ (by omega) (by omega)).other _ _ (by omega) (by omega), grown_new (grown_new (grown_new (grown_new (grown_new (grown_new HG.out _ _ _ (by omega)) _ _ _ (by omega)) _ _ _ (by omega)) _ _ _ (by omega)) _ _ _ (by omega)) _ _ _ (by omega)⟩
end Go.Proofs.YtbhppbeepmllaaaGreatDoor
