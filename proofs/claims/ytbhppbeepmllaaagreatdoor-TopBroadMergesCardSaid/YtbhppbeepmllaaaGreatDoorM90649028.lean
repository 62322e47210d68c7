import Derived.Test.YtbhppbeepmllaaaGreatDoorMdb9ab3e7
import Derived.Test.YtbhppbeepmllaaaGreatDoorM84be9b01
import Derived.Laws.EntriesVeiled
import Derived.RangeFuncNested
import Derived.RangeFuncBound
import Derived.RangeFuncCalls
import Derived.RangeFuncLeaves
import Derived.Shelf.Abstract
import Derived.Shelf.RegionOpen
import Derived.OwnWalkIn
import Derived.TacticsInMore
import Derived.LoopNIn
import Derived.LoopIn
set_option linter.unusedVariables false
set_option linter.unusedSimpArgs false
set_option maxRecDepth 100000
set_option maxHeartbeats 2000000
namespace Go.Proofs.YtbhppbeepmllaaaGreatDoor
open Go.RowKit Go.Shelf
attribute [local go_sem] Oper.semAt_some

theorem cov_in (b : Nat) : ∀ (f L lo hi : Nat), L ≤ b → lo ≤ hi → hi < 2 ^ (b - L) → ∀ p ∈ cov f L lo hi, p.1 ≤ b ∧ p.2 < 2 ^ (b - p.1)
 | 0, _, _, _, _, _, _ => by simp [cov]
 | f + 1, L, lo, hi, hL, hlh, hhi => by
  intro p hp
  rw [cov_succ] at hp
  by_cases h : lo = hi
  ·rw [if_pos h] at hp
   simp at hp; subst hp
   exact ⟨hL, by dsimp only; omega⟩
  ·rw [if_neg h] at hp
   have hLb : L < b := by
    apply Nat.lt_of_not_le
    intro h2
    rw [show b - L = 0 by omega] at hhi
    simp at hhi; omega
   have hpow : 2 ^ (b - L) = 2 * 2 ^ (b - (L + 1)) := by rw [show b - L = (b - (L + 1)) + 1 by omega, Nat.pow_succ]; omega
   have hlo : lo ≤ (if lo % 2 = 1 then lo + 1 else lo) := by split <;> omega
   have hhi2 : (if hi % 2 = 0 then hi - 1 else hi) ≤ hi := by split <;> omega
   rcases List.mem_append.1 hp with hp | hp
   ·rcases List.mem_append.1 hp with hp | hp
    ·split at hp
     ·simp at hp; subst hp; exact ⟨hL, by dsimp only; omega⟩
     ·simp at hp
    ·generalize (if lo % 2 = 1 then lo + 1 else lo) = lo' at hlo hp
     generalize (if hi % 2 = 0 then hi - 1 else hi) = hi' at hhi2 hp
     by_cases h3 : hi' < lo'
     ·rw [if_pos h3] at hp; simp at hp
     ·rw [if_neg h3] at hp
      exact cov_in b f (L + 1) _ _ (by omega) (Nat.div_le_div_right (by omega)) (by omega) p hp
   ·split at hp
    ·simp at hp; subst hp; exact ⟨hL, by dsimp only; omega⟩
    ·simp at hp
theorem cov_len : ∀ (f L lo hi : Nat), (cov f L lo hi).length ≤ 2 * f
 | 0, _, _, _ => by simp [cov]
 | f + 1, L, lo, hi => by
  have ih := fun a b => cov_len f (L + 1) a b
  rw [cov_succ]
  split
  ·simp; omega
  ·simp only [List.length_append]
   have h1 : (if lo % 2 = 1 then [(L, lo)] else ([] : List Pc)).length ≤ 1 := by split <;> simp
   have h2 : (if hi % 2 = 0 then [(L, hi)] else ([] : List Pc)).length ≤ 1 := by split <;> simp
   have h3 : (if (if hi % 2 = 0 then hi - 1 else hi) < (if lo % 2 = 1 then lo + 1 else lo) then ([] : List Pc) else cov f (L + 1) ((if lo % 2 = 1 then lo + 1 else lo) / 2) ((if hi % 2 = 0 then hi - 1 else hi) / 2)).length ≤ 2 * f := by
    generalize (if lo % 2 = 1 then lo + 1 else lo) = lo'
    generalize (if hi % 2 = 0 then hi - 1 else hi) = hi'
    by_cases h4 : hi' < lo'
    ·rw [if_pos h4]; simp
    ·rw [if_neg h4]; exact ih _ _
   omega
theorem cov_pos : ∀ (f L lo hi : Nat), lo ≤ hi → hi < 2 ^ f → 0 < (cov (f + 1) L lo hi).length
 | f, L, lo, hi, h, hf => by
  rw [cov_succ]
  by_cases he : lo = hi
  ·rw [if_pos he]; simp
  ·rw [if_neg he]
   by_cases h1 : lo % 2 = 1
   ·rw [if_pos h1, List.length_append, List.length_append]; simp only [List.length_cons, List.length_nil]; omega
   ·by_cases h2 : hi % 2 = 0
    ·rw [if_pos h2, List.length_append, List.length_append, if_pos h2]; simp only [List.length_cons, List.length_nil]; omega
    ·match f, hf with
     | 0, hf => simp at hf; omega
     | f + 1, hf =>
      have ih := cov_pos f (L + 1) (lo / 2) (hi / 2) (by omega) (by rw [Nat.pow_succ] at hf; omega)
      simp only [if_neg h1, if_neg h2, if_neg (show ¬ hi < lo by omega), List.nil_append, List.append_nil]
      exact ih
theorem vals_stops (F : Fence) (n : Nat) (hf : F.fn 226) (hro : F.round = none) (hn : 1 ≤ n) (bs g cap : Nat) (c : Cfg) (xs : List (PcIn c)) (hx : xs.length ≤ 1000000) (Fr : Nat → Prop) (hFs : ¬ Fr bs) (hFg : ¬ Fr g) (w : World)
  (hs : w.heap[bs]? = some (.cells #[.slice (some ⟨g, 0, none⟩) xs.length cap] 62 (0, 0))) (hrow : w.ownsRow 0 55 2 (.slice (some ⟨g, 0, none⟩) xs.length cap) xs.length (pcs (xs.map fun x => x.1))) :
  SeqStopsK F n Tryz.prog 226 #[.pointer (some ⟨bs, 0, none⟩)] (pcEnc c) (Upd Fr) (fun ys => ys = xs) (fun pre => pre <+: xs) xs.length w := fun l J Jx W hW hJ _ hY h0 =>
 vals_in F n hf hro hn l bs g cap c xs hx Fr J Jx hFs hFg W hJ hY ((hW.block _ (lt_of_block hs)).trans hs) (own_below hrow hW) h0
theorem values_any (b : Option Addr) (n cap : Nat) (w : World) :
  Calls Tryz.prog 194 #[.slice b n cap] w fun e w' => e = .returned (.func (.func 226) #[] #[.pointer (some ⟨w.heap.size, 0, none⟩)]) ∧ w' = w.alloc (.cells #[.slice b n cap] 62) := by
 go_enter Tryz.func194, Tryz.ntmps194
 go_wp2
 go_ret
 exact ⟨rfl, rfl⟩
theorem own_cells {w : World} {B : Nat} {e : TypeId} {size : Nat} {v : Value} {n : Nat} {xs : List Value} (h : w.ownsRow B e size v n xs) : ∀ (j : Nat) (o : Obj), v.ownBlock = some j → w.heap[j]? = some o → o.isCells = true := by
 intro j o hj ho
 rcases h.2 with ⟨e, _⟩ | ⟨g, cap, cur, e, _, hc, _⟩
 ·subst e; simp [Value.ownBlock] at hj
 ·subst e
  simp [Value.ownBlock] at hj
  subst hj
  rw [hc] at ho; cases ho; rfl
structure SpSt (w W0 W : World) (st bo bp : Nat) (told : Nat → Nat → Int) (l : List Pc) : Prop where
 bx : ∃ v, W.heap[bo]? = some (.cells #[v] 34 (0, 0)) ∧ W.ownsRow W0.heap.size 2 1 v l.length (i64s (l.map fun p => told p.1 p.2))
 cl : W.heap[bp]? = some (.cells #[.func (.func 193) #[] #[.pointer (some ⟨w.heap.size, 0, none⟩)]] 328 (0, 0))
 bw : Below w.heap.size w W
 sz : W0.heap.size ≤ W.heap.size
 sx : W.heap[w.heap.size]? = some (.cells #[.pointer (some ⟨st, 0, none⟩)] 41 (0, 0))
theorem SpSt.grown {w W0 W W' : World} {st bo bp : Nat} {told : Nat → Nat → Int} {l : List Pc} (S : SpSt w W0 W st bo bp told l) {row : Option Nat} (hg : W.grownBy W' row) (h1 : row ≠ some bo) (h2 : row ≠ some bp) (h3 : ∀ v, W.heap[bo]? = some (.cells #[v] 34 (0, 0)) → v.ownBlock = none ∨ v.ownBlock ≠ row) (h4 : ∀ k, row = some k → w.heap.size < k) : SpSt w W0 W' st bo bp told l := by
 obtain ⟨⟨v, hv, ho⟩, hc, hb, hz, hx⟩ := S
 exact ⟨⟨v, (hg.block _ (lt_of_block hv) (fun e => h1 e.symm)).trans hv, ho.kept hg (h3 v hv)⟩, (hg.block _ (lt_of_block hc) (fun e => h2 e.symm)).trans hc, hb.grown hg hb.size (fun k e => Nat.le_of_lt (h4 k e)), Nat.le_trans hz hg.size, (hg.block _ (lt_of_block hx) (fun e => by have := h4 _ e.symm; omega)).trans hx⟩
theorem sp_box {Wa w6 : World} {bo B : Nat} {v u : Value} {l : List Pc} {told : Nat → Nat → Int} (h : Wa.heap[bo]? = some (.cells #[v] 34 (0, 0)) ∧ Wa.ownsRow B 2 1 v l.length (i64s (l.map fun p => told p.1 p.2))) (hg : (Wa.alloc (.cells #[u] 2)).grownBy w6 v.ownBlock) : w6.heap[bo]? = some (.cells #[v] 34 (0, 0)) :=
 (hg.block _ (lt_of_block (heap_alloc_under _ h.1)) (own_ne_kind (h.2.alloc (.cells #[u] 2)) (heap_alloc_under _ h.1) (by decide)).symm).trans (heap_alloc_under _ h.1)
theorem Upd.of_row {F : Nat → Prop} {w w' : World} {row : Option Nat} (h : w.grownBy w' row) (hb : ∀ r, row = some r → F r) : Upd F w w' := ⟨h.os, h.tape, h.output, h.size, fun k hk hn => h.block k hk (fun e => hn (hb k e.symm))⟩
theorem sp_round {w V0 W Wa w6 : World} {st bo bp : Nat} {told : Nat → Nat → Int} {l : List Pc} {p : Pc} {v nv : Value} (h1 : bo < V0.heap.size) (h2 : bp < V0.heap.size) (h3 : bo ≠ bp) (h4 : w.heap.size < bo) (h5 : w.heap.size ≤ bp) (h6 : w.heap.size < V0.heap.size)
  (HE : W.heap[bo]? = some (.cells #[v] 34 (0, 0)) ∧ W.ownsRow V0.heap.size 2 1 v l.length (i64s (l.map fun p => told p.1 p.2)) ∧ W.heap[bp]? = some (.cells #[.func (.func 193) #[] #[.pointer (some ⟨w.heap.size, 0, none⟩)]] 328 (0, 0)) ∧ Below w.heap.size w W ∧ V0.heap.size ≤ W.heap.size ∧ W.heap[w.heap.size]? = some (.cells #[.pointer (some ⟨st, 0, none⟩)] 41 (0, 0)))
  (kb : Below W.heap.size W Wa) (hown : w6.ownsRow V0.heap.size 2 1 nv (l.length + 1) (i64s (l.map fun p => told p.1 p.2) ++ [.int .i64 (told p.1 p.2)])) (hgrow : (Wa.alloc (.cells #[.int .i64 (told p.1 p.2)] 2)).grownBy w6 v.ownBlock) :
  KeepsFrom V0.heap.size W (w6.setCell ⟨bo, 0, none⟩ nv) ∧ Upd (fun k => V0.heap.size ≤ k ∨ k = bo) W (w6.setCell ⟨bo, 0, none⟩ nv) ∧ SpSt w V0 (w6.setCell ⟨bo, 0, none⟩ nv) st bo bp told (l ++ [p]) := by
 obtain ⟨hv, ho, hcl, hB, hsz, hgx⟩ := HE
 have hoa := (own_below ho kb).alloc (.cells #[.int .i64 (told p.1 p.2)] 2)
 have hva := (kb.block _ (lt_of_block hv)).trans hv
 have hx6 := sp_box ⟨hva, own_below ho kb⟩ hgrow
 have g0 : W.grownBy w6 v.ownBlock := grown_trans (grown_trans (grown_of_below kb _) (World.grownBy_alloc Wa _ _)) hgrow
 have hr : ∀ r, v.ownBlock = some r → V0.heap.size ≤ r := fun r e => (ho.lt r e).1
 have g1 := grown_set w6 bo 0 nv
 refine ⟨((((keepsO_below kb).trans (KeepsOthers.alloc _ _)).trans (KeepsOthers.of_grownBy hgrow (own_cells hoa))).trans (KeepsOthers.setCell _ _ _)).from _, (Upd.of_row g0 (fun r e => .inl (hr r e))).trans (Upd.of_grown g1 (.inr rfl)), ⟨nv, one_setCell hx6, ?_⟩, ?_, ?_, ?_, ?_⟩
 ·have := ownsRow_setCell_below hown (a := ⟨bo, 0, none⟩) h1 nv
  rw [List.length_append, List.map_append, List.length_singleton]
  simpa using this
 ·exact (heap_setCell_other _ _ _ _ (by simp; omega)).trans ((g0.block _ (lt_of_block hcl) (fun e => by have := hr _ e.symm; omega)).trans hcl)
 ·exact ((hB.grown g0 hB.size (fun k e => by have := hr k e; omega))).setCell (by simp; omega) _
 ·have := g0.size; simp; omega
 ·exact (heap_setCell_other _ _ _ _ (by simp; omega)).trans ((g0.block _ (lt_of_block hgx) (fun e => by have := hr _ e.symm; omega)).trans hgx)
theorem spanParts_any (st lb lcap : Nat) (vs : Nat → Lv) (c : Cfg) (cs : Nat → List Int) (w : World) (S : StackOk w st lb lcap vs c cs) (R : c.Ok) (lo hi : Nat) (hlh : lo ≤ hi) (hhi : hi < 2 ^ c.b) :
  Calls Tryz.prog 160 #[.pointer (some ⟨st, 0, none⟩), .int .u64 lo, .int .u64 hi] w fun e w' => (∃ v, e = .returned (.tuple #[v, .int .i64 0]) ∧ w'.ownsRow w.heap.size 2 1 v (cov 61 0 lo hi).length (i64s ((cov 61 0 lo hi).map fun p => c.lvTold p.1 p.2 (cs p.1)))) ∧ Below w.heap.size w w' := by
 have hb1 := R.b1
 have hb2 := R.b2
 have hk59 : 2 ^ c.b ≤ 2 ^ 59 := Nat.pow_le_pow_right (by omega) hb2
 have dlh : decide ((hi : Int) < lo) = false := by rw [decide_eq_false_iff_not]; omega
 have hb0 : Below w.heap.size w (w.alloc (.cells #[.pointer (some ⟨st, 0, none⟩)] 41)) := (Below.refl _ _).alloc (Nat.le_refl _) _
 have HC := Lib.hid (stConfig_any st lb lcap vs c cs _ (S.below hb0))
 have HV := Lib.hid fun w => cover_any c.b lo hi w hb1 hb2 hlh hhi
 have hcf := fun w => cfgBits c.b c.r c.wd c.m c.s w
 have hcin := cov_in c.b 61 0 lo hi (by omega) hlh hhi
 have hclen := cov_len 61 0 lo hi
 have hcpos := cov_pos 60 0 lo hi hlh (by omega)
 obtain ⟨cv, hcv⟩ : ∃ cv, cov 61 0 lo hi = cv := ⟨_, rfl⟩
 rw [show 60 + 1 = 61 from rfl] at hcpos
 rw [hcv] at hcin hclen hcpos HV ⊢
 clear hcv
 obtain ⟨xs, hxs⟩ : ∃ xs : List (PcIn c), xs.map (fun x => x.1) = cv := ⟨cv.attach.map fun p => ⟨p.1, hcin p.1 p.2⟩, by rw [List.map_map]; exact List.attach_map_subtype_val cv⟩
 have hmf : ∀ (fn : Fn) (first cap : Array Value) (w : World), (Instr.makeFunc fn first cap).run Tryz.prog w = .ok (.func fn first cap) w := fun _ _ _ _ => rfl
 refine (callsIn_wide (n := 5)).1 ?_
 refine callsIn_of_wp_marks Tryz.func160 rfl trivial ?_ rfl
 simp only [Tryz.ntmps160, List.size_toArray, List.length_cons, List.length_nil, Nat.reduceAdd, Nat.reduceSub, Array.replicate_succ, Array.replicate_zero, List.push_toArray, List.append_toArray, List.nil_append, List.cons_append]
 gi_wp2_with fail
 refine ⟨trivial, (callsIn_wide.2 HC.out).mono ?_⟩
 rintro e w1 ⟨rfl, hb⟩
 have hx1 : w1.heap[w.heap.size]? = some (.cells #[.pointer (some ⟨st, 0, none⟩)] 41 (0, 0)) := (hb.block _ (by simp)).trans (heap_alloc_at _ rfl)
 have k1 := below_alloc hb
 gi_wp2_with fail
 refine ⟨trivial, (callsIn_wide.2 (HV.out _)).mono ?_⟩
 rintro e w2 ⟨⟨v, rfl, ho⟩, hb2'⟩
 have hx2 := (hb2'.block _ (lt_of_block hx1)).trans hx1
 have k2 := k1.trans (hb2'.mono k1.size)
 obtain ⟨g, cap, rfl⟩ : ∃ g cap, v = .slice (some ⟨g, 0, none⟩) cv.length cap := by
  rcases ho.2 with ⟨_, h⟩ | ⟨g, cap, _, h, _⟩
  ·omega
  ·exact ⟨g, cap, h⟩
 clear hb hb2' hx1 k1 HC HV hb0 hcf
 gi_wp2_with fail
 refine ⟨trivial, (callsIn_wide.2 (values_any _ _ _ _)).mono ?_⟩
 rintro e w3 ⟨rfl, rfl⟩
 gi_wp2_with fail
 obtain ⟨told, htold⟩ : ∃ told : Nat → Nat → Int, (fun l i => c.lvTold l i (cs l)) = told := ⟨_, rfl⟩
 have htp : ∀ p : Pc, c.lvTold p.1 p.2 (cs p.1) = told p.1 p.2 := fun p => congrFun (congrFun htold p.1) p.2
 obtain ⟨V0, hV0⟩ : ∃ V0, ((w2.alloc (.cells #[.func (.func 193) #[] #[.pointer (some ⟨w.heap.size, 0, none⟩)]] 328)).alloc (.cells #[.slice none 0 0] 34)).alloc (.cells #[.slice (some ⟨g, 0, none⟩) cv.length cap] 62) = V0 := ⟨_, rfl⟩
 have szV : V0.heap.size = w2.heap.size + 3 := by rw [← hV0]; simp
 have kV2 : Below w2.heap.size w2 V0 := by rw [← hV0]; exact (((Below.refl _ _).alloc (Nat.le_refl _) _).alloc (by simp) _).alloc (by simp; omega) _
 have kV : Below w.heap.size w V0 := k2.trans (kV2.mono k2.size)
 have gc : V0.heap[w2.heap.size]? = some (.cells #[.func (.func 193) #[] #[.pointer (some ⟨w.heap.size, 0, none⟩)]] 328 (0, 0)) := by rw [← hV0]; exact heap_alloc_under _ (heap_alloc_under _ (heap_alloc_at _ rfl))
 have go_ : V0.heap[w2.heap.size + 1]? = some (.cells #[.slice none 0 0] 34 (0, 0)) := by rw [← hV0]; exact heap_alloc_under _ (heap_alloc_at _ (by simp))
 have gs : V0.heap[w2.heap.size + 1 + 1]? = some (.cells #[.slice (some ⟨g, 0, none⟩) cv.length cap] 62 (0, 0)) := by rw [← hV0]; exact heap_alloc_at _ (by simp)
 have gx : V0.heap[w.heap.size]? = some (.cells #[.pointer (some ⟨st, 0, none⟩)] 41 (0, 0)) := (kV2.block _ (lt_of_block hx2)).trans hx2
 have hrow : V0.ownsRow 0 55 2 (.slice (some ⟨g, 0, none⟩) xs.length cap) xs.length (pcs (xs.map fun x => x.1)) := by
  rw [hxs, show xs.length = cv.length by rw [← hxs]; simp]; exact own_base (own_below ho kV2) (by omega)
 have lg : g < w2.heap.size := ints_lt2 ho
 have hxl : xs.length = cv.length := by rw [← hxs]; simp
 have lw2 := k2.size
 have lx2 := lt_of_block hx2
 rw [hV0]
 clear hV0 hx2 ho hmf dlh
 have hT := vals_stops Fence.wide 4 trivial rfl (by decide) (w2.heap.size + 1 + 1) g cap c xs (by omega) (fun k => V0.heap.size ≤ k ∨ k = w2.heap.size + 1) (by omega) (by omega) V0 (by rw [hxl]; exact gs) hrow
 obtain ⟨i0, hi0, hz0, hz1, hz2⟩ := info_parts Tryz.info2
 have szV1 : w2.heap.size + 2 < V0.heap.size := by omega
 clear szV
 refine wpIn_rangeFunc_ownH rfl (by decide) (gf := 226) (lb := #[.pointer (some ⟨w2.heap.size + 1 + 1, 0, none⟩)]) rfl trivial (enters_of Tryz.func226 (by kernel_rfl) rfl)
  hT (fun h1 h2 => h1.trans h2) ?gKb (Below.refl _ _) (fun _ => rfl)
  (fun pre W => SpSt w V0 W st (w2.heap.size + 1) w2.heap.size told (pre.map fun x => x.1))
  (fun _ _ _ => False) ?gI ?gIx ?g0
  (fun x a' W => ∃ Bx, V0.heap.size ≤ Bx ∧ W.heap[Bx]? = some (.cells #[.int .i64 x.1.1, .int .u64 x.1.2] 55 (0, 0)) ∧ a' = { tmps := #[.pointer (some ⟨st, 0, none⟩), .int .u64 lo, .int .u64 hi, .pointer (some ⟨w.heap.size, 0, none⟩), undef, undef, .slice none 0 0, .int .i64 0, .slice (some ⟨g, 0, none⟩) cv.length cap, .bool true, .pointer (some ⟨w2.heap.size, 0, none⟩), .pointer (some ⟨w2.heap.size + 1, 0, none⟩), .pointer (some ⟨Bx, 0, none⟩), .int .u64 lo, .int .u64 hi, .bool false, .tuple #[.slice (some ⟨g, 0, none⟩) cv.length cap, .bool true], .pointer (some ⟨st, 0, none⟩), .agg #[.int .i64 c.b, .int .i64 c.r, .int .i64 c.wd, .int .i64 c.m, .int .u64 c.s], .int .i64 c.b, .int .u64 lo, .int .u64 hi, .tuple #[.slice (some ⟨g, 0, none⟩) cv.length cap, .bool true], .slice (some ⟨g, 0, none⟩) cv.length cap, .bool true, .bool true, .bool false, .func (.func 193) #[] #[.pointer (some ⟨w.heap.size, 0, none⟩)], .slice (some ⟨g, 0, none⟩) cv.length cap, .func (.func 226) #[] #[.pointer (some ⟨w2.heap.size + 1 + 1, 0, none⟩)], .agg #[.int .i64 x.1.1, .int .u64 x.1.2], undef, undef, undef, undef, undef, undef, undef], defers := [] })
  ?gAx ?gassign ?gbody ?gdone ?gstop
 case g0 => exact ⟨⟨_, go_, World.ownsRow_nil _ _ _ _⟩, gc, kV, Nat.le_refl _, gx⟩
 case gIx => exact fun _ _ _ _ _ hs _ _ => hs
 case gKb => exact fun X l o o' hl ho h1 h2 => Upd.of_grown (grownBy_putObj' X l o') (.inl hl)
 case gI =>
  intro pre A B row hs hg hr
  refine hs.grown hg (fun e => by have := (hr _ e).1; omega) (fun e => by have := (hr _ e).1; omega) (fun v hv => ?_) (fun k e => by have := (hr k e).1; omega)
  obtain ⟨v2, hv2, ho2⟩ := hs.bx
  rw [hv] at hv2; cases hv2
  rcases ho2.2 with ⟨e2, _⟩ | ⟨g2, cap2, cur2, e2, _, hc2, _⟩
  ·subst e2; exact .inl rfl
  ·subst e2
   refine .inr fun e => ?_
   obtain ⟨_, o2, ho3, hn⟩ := hr g2 (e.symm.trans rfl)
   rw [hc2] at ho3; cases ho3; cases hn
 case gAx =>
  rintro x a' _ A B row ⟨Bx, hB, hx, rfl⟩ hg hr
  exact ⟨Bx, hB, (hg.block _ (lt_of_block hx) (fun e => by obtain ⟨_, o, ho, hn⟩ := hr _ e.symm; rw [hx] at ho; cases ho; cases hn)).trans hx, rfl⟩
 case gassign =>
  rintro l pre x W K hi hK
  unfold pcEnc
  gi_wp2
  refine hK _ _ ((KeepsOthers.alloc _ _).from _) (Upd.of_below ((Below.refl _ _).alloc (Nat.le_refl _) _)) ?_ ⟨W.heap.size, ?_, heap_alloc_new _ _, rfl⟩
  ·exact hi.grown (World.grownBy_alloc W _ none) (fun e => by cases e) (fun e => by cases e) (fun v hv => by cases h : v.ownBlock with
    | none => exact .inl rfl
    | some b => exact .inr (by simp)) (fun k e => by cases e)
  ·exact hi.sz
 case gdone =>
  rintro D ys W hD rfl ⟨⟨v, hv, ho⟩, hcl, hB, hsz, hgx⟩ hKD
  have ct : W.cell? ⟨w2.heap.size + 1, 0, none⟩ = some v := cell_of_heap hv 0 _ rfl
  obtain ⟨vb, vc, rfl⟩ := own_form ho
  have HO := Lib.hid ho
  have lh := lt_of_block hKD
  clear hT hv ho hrow gc go_ gs gx
  gi_wp2_with fail
  refine ⟨by simp, .inl ⟨_, _, rfl, run_takeDeferred hKD, ?_⟩⟩
  refine ⟨.tuple #[.slice vb (ys.map fun x => x.1).length vc, .int .i64 0], by simp [results, Tryz.results160, go_sem, hxl], ?_⟩
  have g1 := grownBy_putObj' W D (.deferred none)
  have ho3 : (W.putObj D (.deferred none)).ownsRow V0.heap.size 2 1 (.slice vb (ys.map fun x => x.1).length vc) (ys.map fun x => x.1).length (i64s ((ys.map fun x => x.1).map fun p => told p.1 p.2)) := ownsRow_putObj HO.out _ hKD rfl
  refine ⟨⟨_, rfl, ?_⟩, hB.grown g1 hB.size (fun k e => by cases e; omega)⟩
  rw [hxs] at ho3
  have e2 : (cv.map fun p => c.lvTold p.1 p.2 (cs p.1)) = cv.map fun p => told p.1 p.2 := List.map_congr_left fun p _ => htp p
  rw [hxs, e2]
  exact own_base ho3 kV.size
 case gstop =>
  rintro D c2 pre W _ _ h _
  exact h.elim
 case gbody =>
  rintro l pre x a' W hl _ ⟨⟨v, hv, ho⟩, hcl, hB, hsz, hgx⟩ ⟨Bx, hBx, hx, rfl⟩ hlen
  have SW := S.below hB
  have gxW := hgx
  obtain ⟨⟨p1, p2⟩, hp1, hp2⟩ := x
  dsimp only at hx hp1 hp2
  have l1 := lt_of_block hv
  have l2 := lt_of_block hcl
  have l3 := lt_of_block hx
  have c1 : W.cell? ⟨w2.heap.size + 1, 0, none⟩ = some v := cell_of_heap hv 0 _ rfl
  have c2 : W.cell? ⟨w2.heap.size, 0, none⟩ = some (.func (.func 193) #[] #[.pointer (some ⟨w.heap.size, 0, none⟩)]) := cell_of_heap hcl 0 _ rfl
  have c3 : W.cell? ⟨Bx, 0, none⟩ = some (.int .i64 p1) := cell_of_heap hx 0 _ rfl
  have c4 : W.cell? ⟨Bx, 1, none⟩ = some (.int .u64 p2) := cell_of_heap hx 1 _ rfl
  have HC := Lib.hid fun k : After W.heap.size W => spanPt_any st lb lcap w.heap.size vs c cs k.w (SW.below k.h) R p1 p2 hp1 hp2 ((k.h.block _ (lt_of_block gxW)).trans gxW)
  have e1 := htp (p1, p2)
  dsimp only at e1
  rw [e1] at HC
  have HE := Lib.hid (And.intro hv (And.intro ho (And.intro hcl (And.intro hB (And.intro hsz hgx)))))
  have hpl : pre.length ≤ 1000 := by omega
  clear e1 hv hcl hx gxW hgx SW hT hrow gc go_ gs gx hB
  gi_wp2_with fail
  refine wpIn_region_T (fun j X => j ≤ 4 → X.cell? ⟨w2.heap.size + 1, 0, none⟩ = some v) (by kernel_rfl) rfl ?_
  refine wpAnyT_take (i := 0) (v := v) (S := fun X => X.cell? ⟨w2.heap.size + 1, 0, none⟩ = some v) rfl (by kernel_rfl) (by kernel_rfl) (by kernel_rfl) (fun c a w h => (calm_panic _ c _ w h).elim) (fun j oj hj hw X hX => hX (waits_le (by kernel_rfl) j oj hj hw)) (fun X hX _ => hX) (.inl ⟨by rfl, fun X hX => by go_simp⟩) c1 ?_
  refine wpAnyT_two (i := 1) (k := 2) (by kernel_rfl) rfl rfl (fun K hK => ?w1) (fun K hK => ?w2)
  case w1 =>
   go_simp
   refine hK.out _ _ (fun _ => c1) ?_
   refine wpAnyT_one (i := 2) (by kernel_rfl) rfl (fun K2 hK2 => ?_)
   go_simp
   refine hK2.out _ _ (fun _ => c1) ?_
   refine wpAnyT_one (i := 3) (by kernel_rfl) rfl (fun K3 hK3 => ?_)
   go_simp
   refine (HC.out ⟨W.drew, (Below.refl _ _).drew⟩).mono ?_
   rintro e Wa ⟨rfl, kb⟩
   dsimp only
   have cv2 := (kb.cell (p := ⟨w2.heap.size + 1, 0, none⟩) l1).trans c1
   have hsa : W.heap.size ≤ Wa.heap.size := kb.size
   refine hK3.out _ _ (fun _ => cv2) ?_
   refine wpAnyT_one (i := 4) (by kernel_rfl) rfl (fun K4 hK4 => ?_)
   go_simp
   refine hK4.out _ _ (fun _ => (((Below.refl Wa.heap.size Wa).alloc (Nat.le_refl _) _).cell (p := ⟨w2.heap.size + 1, 0, none⟩) (Nat.lt_of_lt_of_le l1 hsa)).trans cv2) ?_
   refine wpAnyT_walk [5, 6] _ _ _ (by intro k hk X h; simp at hk; omega) (by kernel_rfl) ?_
   simp only [opsAt, List.map_cons, List.map_nil, List.getElem?_toArray, List.getElem?_cons_zero, List.getElem?_cons_succ, Option.getD_some]
   unfold calmQ
   clear hK hK2 hK3 hK4 K K2 K3 K4
   obtain ⟨hv, ho2, hcl, hB, hsz, hgx⟩ := HE.out
   have hv2 := (kb.block _ l1).trans hv
   have ho3 := own_below ho2 (below_drew_left kb)
   have HW := Lib.hid (And.intro hv2 ho3)
   clear hv ho2 hcl hB hgx hv2 c1 c2 c3 c4
   go_wp2_with (at_builtin; refine wpList_append_own_at _ rfl (.tmp 31) (.tmp 35) 34 rfl V0.heap.size 2 i0 (.int .i64 0) 1 8 Tryz.underlying34 hi0 hz0 hz1 hz2 rfl (by decide) v (pre.map fun x => x.1).length _ rfl (ho3.alloc (.cells #[.int .i64 (told p1 p2)] 2)) ⟨Wa.heap.size, 0, none⟩ 1 1 [.int .i64 (told p1 p2)] rfl rfl (cell_one_new _ _ _) (by intro x hx; simp at hx; subst hx; rfl) (by unfold maxLen; simp; omega) (by simp; omega) (by simp; omega) ?_; intro v' w6 hown hgrow hnil hat; obtain ⟨nb, nc, rfl⟩ := own_form hown; have hx6 := sp_box HW.out hgrow; have cx6 : w6.cell? ⟨w2.heap.size + 1, 0, none⟩ = some v := cell_of_heap hx6 0 _ rfl; have fx6 : w6.frozen? ⟨w2.heap.size + 1, 0, none⟩ = false := by simp [World.frozen?, hx6])
   have kb2 : Below W.heap.size W Wa := below_drew_left kb
   have hE := sp_round (p := (p1, p2)) (by omega) (by omega) (by omega) (by omega) (by omega) (by omega) HE.out kb2 hown hgrow
   simp only [List.length_map] at hE
   refine ⟨hE.1, hE.2.1, ?_⟩
   dsimp only
   rw [List.map_append]
   exact hE.2.2
  case w2 =>
   go_simp
   refine hK.out _ _ (fun _ => c1) ?_
   refine wpAnyT_one (i := 1) (by kernel_rfl) rfl (fun K2 hK2 => ?_)
   go_simp
   refine hK2.out _ _ (fun _ => c1) ?_
   refine wpAnyT_one (i := 3) (by kernel_rfl) rfl (fun K3 hK3 => ?_)
   go_simp
   refine (HC.out ⟨W.drew, (Below.refl _ _).drew⟩).mono ?_
   rintro e Wa ⟨rfl, kb⟩
   dsimp only
   have cv2 := (kb.cell (p := ⟨w2.heap.size + 1, 0, none⟩) l1).trans c1
   have hsa : W.heap.size ≤ Wa.heap.size := kb.size
   refine hK3.out _ _ (fun _ => cv2) ?_
   refine wpAnyT_one (i := 4) (by kernel_rfl) rfl (fun K4 hK4 => ?_)
   go_simp
   refine hK4.out _ _ (fun _ => (((Below.refl Wa.heap.size Wa).alloc (Nat.le_refl _) _).cell (p := ⟨w2.heap.size + 1, 0, none⟩) (Nat.lt_of_lt_of_le l1 hsa)).trans cv2) ?_
   refine wpAnyT_walk [5, 6] _ _ _ (by intro k hk X h; simp at hk; omega) (by kernel_rfl) ?_
   simp only [opsAt, List.map_cons, List.map_nil, List.getElem?_toArray, List.getElem?_cons_zero, List.getElem?_cons_succ, Option.getD_some]
   unfold calmQ
   clear hK hK2 hK3 hK4 K K2 K3 K4
   obtain ⟨hv, ho2, hcl, hB, hsz, hgx⟩ := HE.out
   have hv2 := (kb.block _ l1).trans hv
   have ho3 := own_below ho2 (below_drew_left kb)
   have HW := Lib.hid (And.intro hv2 ho3)
   clear hv ho2 hcl hB hgx hv2 c1 c2 c3 c4
   go_wp2_with (at_builtin; refine wpList_append_own_at _ rfl (.tmp 31) (.tmp 35) 34 rfl V0.heap.size 2 i0 (.int .i64 0) 1 8 Tryz.underlying34 hi0 hz0 hz1 hz2 rfl (by decide) v (pre.map fun x => x.1).length _ rfl (ho3.alloc (.cells #[.int .i64 (told p1 p2)] 2)) ⟨Wa.heap.size, 0, none⟩ 1 1 [.int .i64 (told p1 p2)] rfl rfl (cell_one_new _ _ _) (by intro x hx; simp at hx; subst hx; rfl) (by unfold maxLen; simp; omega) (by simp; omega) (by simp; omega) ?_; intro v' w6 hown hgrow hnil hat; obtain ⟨nb, nc, rfl⟩ := own_form hown; have hx6 := sp_box HW.out hgrow; have cx6 : w6.cell? ⟨w2.heap.size + 1, 0, none⟩ = some v := cell_of_heap hx6 0 _ rfl; have fx6 : w6.frozen? ⟨w2.heap.size + 1, 0, none⟩ = false := by simp [World.frozen?, hx6])
   have kb2 : Below W.heap.size W Wa := below_drew_left kb
   have hE := sp_round (p := (p1, p2)) (by omega) (by omega) (by omega) (by omega) (by omega) (by omega) HE.out kb2 hown hgrow
   simp only [List.length_map] at hE
   refine ⟨hE.1, hE.2.1, ?_⟩
   dsimp only
   rw [List.map_append]
   exact hE.2.2
theorem sumI_cons (x : Int) (l : List Int) : sumI (x :: l) = x + sumI l := by
 have h : ∀ (l : List Int) (a : Int), l.foldl (· + ·) a = a + l.foldl (· + ·) 0 := by
  intro l
  induction l with
  | nil => intro a; simp
  | cons y l ih => intro a; simp only [List.foldl_cons]; rw [ih (a + y), ih (0 + y)]; omega
 unfold sumI
 simp only [List.foldl_cons]
 rw [h l (0 + x)]; omega
theorem sumI_bd (M : Int) : ∀ l : List Int, (∀ x ∈ l, -M ≤ x ∧ x ≤ M) → -(M * l.length) ≤ sumI l ∧ sumI l ≤ M * l.length
 | [], _ => by simp [sumI]
 | x :: l, h => by
  have ih := sumI_bd M l (fun y hy => h y (by simp [hy]))
  have hx := h x (by simp)
  rw [sumI_cons]
  simp only [List.length_cons]
  have e : M * ((l.length + 1 : Nat) : Int) = M * l.length + M := by rw [show ((l.length + 1 : Nat) : Int) = (l.length : Int) + 1 by omega, Int.mul_add, Int.mul_one]
  omega
theorem span_any (st lb lcap : Nat) (vs : Nat → Lv) (c : Cfg) (cs : Nat → List Int) (w : World) (S : StackOk w st lb lcap vs c cs) (R : c.Ok) (lo hi : Nat) (hlh : lo ≤ hi) (hhi : hi < 2 ^ c.b)
  (hb : ∀ l i, l ≤ c.b → i < c.keys l → -4503599627370496 ≤ c.lvTold l i (cs l) ∧ c.lvTold l i (cs l) ≤ 4503599627370496) :
  Calls Tryz.prog 121 #[.pointer (some ⟨st, 0, none⟩), .int .u64 lo, .int .u64 hi] w fun e w' => e = .returned (.tuple #[.int .i64 (sumI ((cov 61 0 lo hi).map fun p => c.lvTold p.1 p.2 (cs p.1))), .int .i64 0]) ∧ Below w.heap.size w w' := by
 have HP := Lib.hid (spanParts_any st lb lcap vs c cs w S R lo hi hlh hhi)
 have hb2 := R.b2
 have hk59 : 2 ^ c.b ≤ 2 ^ 59 := Nat.pow_le_pow_right (by omega) hb2
 have hcin := cov_in c.b 61 0 lo hi (by omega) hlh hhi
 have hclen := cov_len 61 0 lo hi
 have hcpos := cov_pos 60 0 lo hi hlh (by omega)
 rw [show 60 + 1 = 61 from rfl] at hcpos
 obtain ⟨xs, hxs⟩ : ∃ xs, ((cov 61 0 lo hi).map fun p => c.lvTold p.1 p.2 (cs p.1)) = xs := ⟨_, rfl⟩
 have hxl : xs.length = (cov 61 0 lo hi).length := by rw [← hxs]; simp
 have hxb : ∀ x ∈ xs, -4503599627370496 ≤ x ∧ x ≤ 4503599627370496 := by
  intro x hx
  rw [← hxs] at hx
  simp only [List.mem_map] at hx
  obtain ⟨p, hp, rfl⟩ := hx
  obtain ⟨h1, h2⟩ := hcin p hp
  exact hb p.1 p.2 h1 h2
 rw [hxs, ← hxl] at HP
 rw [hxs]
 rw [← hxl] at hclen hcpos
 clear hxs hxl hcin hb
 have hsb : ∀ k, -2305843009213693952 ≤ sumI (xs.take k) ∧ sumI (xs.take k) ≤ 2305843009213693952 := by
  intro k
  have h := sumI_bd 4503599627370496 (xs.take k) (fun x hx => hxb x (List.mem_of_mem_take hx))
  have hl : (xs.take k).length ≤ 122 := by rw [List.length_take]; omega
  omega
 have HS := Lib.hid fun g cap w hx => wsum_any xs g cap w hcpos (by omega) hx hsb (fun x hx => by have := hxb x hx; omega)
 clear hsb hxb
 go_enter Tryz.func121, Tryz.ntmps121
 go_wp2_with fail
 refine HP.out.mono ?_
 rintro e w1 ⟨⟨v, rfl, ho⟩, k1⟩
 obtain ⟨g, cap, rfl⟩ : ∃ g cap, v = .slice (some ⟨g, 0, none⟩) xs.length cap := by
  rcases ho.2 with ⟨_, h⟩ | ⟨g, cap, _, h, _⟩
  ·omega
  ·exact ⟨g, cap, h⟩
 have HO := Lib.hid (HS.out g cap w1 (own_base ho (by omega)))
 clear ho HS
 go_wp2_with fail
 refine HO.out.mono ?_
 rintro e w2 ⟨rfl, hb⟩
 go_wp2
 go_ret2
 exact ⟨rfl, k1.trans (hb.mono k1.size)⟩
end Go.Proofs.YtbhppbeepmllaaaGreatDoor
