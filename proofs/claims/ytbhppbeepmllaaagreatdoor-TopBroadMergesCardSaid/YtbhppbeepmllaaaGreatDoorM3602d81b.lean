import Derived.Test.YtbhppbeepmllaaaGreatDoorM28250462
import Derived.Test.YtbhppbeepmllaaaGreatDoorMaa48956b
import Derived.Test.YtbhppbeepmllaaaGreatDoorMa2ad0a35
set_option linter.unusedVariables false
set_option linter.unusedSimpArgs false
set_option maxRecDepth 100000
set_option maxHeartbeats 2000000
namespace Go.Proofs.YtbhppbeepmllaaaGreatDoor
open Go.RowKit Go.Shelf
attribute [local go_sem] Oper.semAt_some

theorem split_mk (s t : ByteArray) (w : World) : Calls Tryz.prog 72 #[.string s, .string t] w fun e w' => e = .returned (.func (.func 141) #[] #[.pointer (some ⟨w.heap.size + 1, 0, none⟩), .pointer (some ⟨w.heap.size, 0, none⟩), .pointer (some ⟨w.heap.size + 1 + 1, 0, none⟩)]) ∧ w' = ((w.alloc (.cells #[.string s] 9)).alloc (.cells #[.string t] 9)).alloc (.cells #[.int .i64 0] 3) := by
 have hmf : ∀ (fn : Fn) (first cap : Array Value) (w : World), (Instr.makeFunc fn first cap).run Tryz.prog w = .ok (.func fn first cap) w := fun _ _ _ _ => rfl
 go_enter Tryz.func72, Tryz.ntmps72
 go_wp2_with (go_at_call 100; go_in)
 go_ret
 exact ⟨rfl, rfl⟩
def outV (outs : Nat → List UInt8) (n : Nat) : List Value := (List.range n).map fun k => .string (sOf (outs k))
theorem outV_len (outs : Nat → List UInt8) (n : Nat) : (outV outs n).length = n := by simp [outV]
theorem outV_succ (outs : Nat → List UInt8) (n : Nat) : outV outs (n + 1) = outV outs n ++ [.string (sOf (outs n))] := by simp [outV, List.range_succ]
structure RnSt (w V0 W : World) (bo q ag mb : Nat) (outs : Nat → List UInt8) (G : Nat → World → Prop) (k : Nat) : Prop where
 bx : ∃ v, W.heap[bo]? = some (Obj.cells #[v] 101 (0, 0)) ∧ W.ownsRow V0.heap.size 9 1 v k (outV outs k)
 ab : W.heap[q]? = some (Obj.cells #[.pointer (some ⟨ag, 0, none⟩)] 32 (0, 0))
 s1 : ∃ v, W.heap[q + 1]? = some (Obj.cells #[v] 9 (0, 0))
 s2 : ∃ v, W.heap[q + 1 + 1]? = some (Obj.cells #[v] 9 (0, 0))
 s3 : ∃ v, W.heap[q + 1 + 1 + 1]? = some (Obj.cells #[v] 3 (0, 0))
 g : G k W
 bw : Below w.heap.size w W
 sz : V0.heap.size ≤ W.heap.size
theorem RnSt.row {w V0 W : World} {bo q ag mb : Nat} {outs : Nat → List UInt8} {G : Nat → World → Prop} {k : Nat} (S : RnSt w V0 W bo q ag mb outs G k) {v : Value} (hv : W.heap[bo]? = some (Obj.cells #[v] 101 (0, 0))) : W.ownsRow V0.heap.size 9 1 v k (outV outs k) := by
 obtain ⟨u, h1, h2⟩ := S.bx
 rw [hv] at h1
 have : v = u := by simpa using h1
 exact this ▸ h2
theorem RnSt.own {w V0 W W' : World} {bo q ag mb : Nat} {outs : Nat → List UInt8} {G : Nat → World → Prop} {k : Nat} (S : RnSt w V0 W bo q ag mb outs G k) {row : Option Nat} (hg : W.grownBy W' row) (hr : ∀ r, row = some r → w.heap.size ≤ r ∧ ∃ o : Obj, W.heap[r]? = some o ∧ o.isCells = false) (hG : G k W') : RnSt w V0 W' bo q ag mb outs G k := by
 have key : ∀ (i : Nat) (cur : Array Value) (t : TypeId) (fr : Nat × Nat), W.heap[i]? = some (Obj.cells cur t fr) → W'.heap[i]? = W.heap[i]? := by
  intro i cur t fr hk
  refine hg.block i (by rcases Nat.lt_or_ge i W.heap.size with h' | h'; exact h'; simp [Array.getElem?_eq_none h'] at hk) (fun e => ?_)
  obtain ⟨_, o, ho, hn⟩ := hr i e.symm
  rw [hk] at ho; cases ho; cases hn
 obtain ⟨v, hv, ho⟩ := S.bx
 obtain ⟨v1, h1⟩ := S.s1
 obtain ⟨v2, h2⟩ := S.s2
 obtain ⟨v3, h3⟩ := S.s3
 refine ⟨⟨v, (key _ _ _ _ hv).trans hv, own_same ho (fun g hg' => ?_)⟩, (key _ _ _ _ S.ab).trans S.ab, ⟨v1, (key _ _ _ _ h1).trans h1⟩, ⟨v2, (key _ _ _ _ h2).trans h2⟩, ⟨v3, (key _ _ _ _ h3).trans h3⟩, hG, S.bw.grown hg S.bw.size (fun b e => (hr b e).1), Nat.le_trans S.sz hg.size⟩
 rcases ho.2 with ⟨e, _⟩ | ⟨g2, cap, cur, e, _, hc, _⟩
 ·rw [e] at hg'; cases hg'
 ·rw [e] at hg'
  have : g2 = g := by simpa [Value.ownBlock] using hg'
  subst this
  exact key _ _ _ _ hc
theorem LF.keeps {ag mb B : Nat} {W W' : World} (hU : Upd (LF ag mb W) W W') (h1 : ag < B) (h2 : mb < B) : KeepsFrom B W W' :=
 ⟨hU.size, fun k o hB hk ho => (hU.block k (by rcases Nat.lt_or_ge k W.heap.size with h' | h'; exact h'; simp [Array.getElem?_eq_none h'] at hk) (by
  rintro (h | h | ⟨cur, h⟩)
  ·omega
  ·omega
  ·rw [hk] at h; cases h; cases ho)).trans hk⟩
theorem run_any (ls : List (List UInt8)) (outs : Nat → List UInt8) (G : Nat → Nat → Nat → World → Prop) (hne : ls ≠ []) (hx : ls.length ≤ 1000) (h10 : ∀ x ∈ ls, ∀ b ∈ x, b ≠ 10) (hsz : (nlJ ls).length ≤ 1000000) (w : World) (h4 : 4 < w.heap.size)
  (hG0 : ∀ ag mb W, AggSt W ag mb 0 (fun _ => 0) → Below w.heap.size w W → w.heap.size ≤ ag → w.heap.size ≤ mb → G ag mb 0 W)
  (hGk : ∀ ag mb k A B row, G ag mb k A → A.grownBy B row → (∀ r, row = some r → AwayB ag mb A r) → G ag mb k B)
  (hst : ∀ ag mb k x W, ls[k]? = some x → w.heap.size ≤ ag → w.heap.size ≤ mb → Below w.heap.size w W → G ag mb k W → Calls Tryz.prog 13 #[.pointer (some ⟨ag, 0, none⟩), .string (sOf x)] W fun e W' => e = .returned (.tuple #[.string (sOf (outs k)), .bool true]) ∧ G ag mb (k + 1) W' ∧ Upd (LF ag mb W) W W' ∧ Below w.heap.size w W') :
  Calls Tryz.prog 46 #[.string (sOf (nlJ ls))] w fun e w' => (∃ g cc, e = .returned (.slice (some ⟨g, 0, none⟩) ls.length cc) ∧ w'.ownsRow w.heap.size 9 1 (.slice (some ⟨g, 0, none⟩) ls.length cc) ls.length (outV outs ls.length)) ∧ Below w.heap.size w w' := by
 have hzs : (sOf (nlJ ls)).size ≤ 1000000 := by rw [sOf_size]; exact hsz
 have HN := Lib.hid fun w => new_any w
 refine (callsIn_wide (n := 5)).1 ?_
 refine callsIn_of_wp_marks Tryz.func46 rfl trivial ?_ rfl
 simp only [Tryz.ntmps46, List.size_toArray, List.length_cons, List.length_nil, Nat.reduceAdd, Nat.reduceSub, Array.replicate_succ, Array.replicate_zero, List.push_toArray, List.append_toArray, List.nil_append, List.cons_append]
 gi_wp2_with fail
 refine ⟨trivial, (callsIn_wide.2 (HN.out _)).mono ?_⟩
 rintro e w1 ⟨rfl, hA, hb⟩
 gi_wp2_with fail
 refine ⟨trivial, (callsIn_wide.2 (split_mk _ _ _)).mono ?_⟩
 rintro e w2 ⟨rfl, rfl⟩
 gi_wp2_with fail
 obtain ⟨V0, hV0⟩ : ∃ V0, (((w1.alloc (.cells #[.pointer (some ⟨w.heap.size + 1 + 1, 0, none⟩)] 32)).alloc (.cells #[.string (sOf (nlJ ls))] 9)).alloc (.cells #[.string ⟨#[10]⟩] 9)).alloc (.cells #[.int .i64 0] 3) = V0 := ⟨_, rfl⟩
 have hb' := below_alloc hb
 have hz1 : w.heap.size + 3 ≤ w1.heap.size := by
  have := lt_of_block hA.hd; simp at this; omega
 have kV1 : Below w1.heap.size w1 V0 := by rw [← hV0]; exact ((((Below.refl _ _).alloc (Nat.le_refl _) _).alloc (by simp) _).alloc (by simp; omega) _).alloc (by simp; omega) _
 have szV : V0.heap.size = w1.heap.size + 4 := by rw [← hV0]; simp
 have kV : Below w.heap.size w V0 := hb'.trans (kV1.mono hb'.size)
 have gbo : V0.heap[w.heap.size]? = some (Obj.cells #[.slice none 0 0] 101 (0, 0)) := (kV1.block _ (by omega)).trans ((hb.block _ (by simp)).trans (heap_alloc_at _ rfl))
 have gba : V0.heap[w1.heap.size]? = some (Obj.cells #[.pointer (some ⟨w.heap.size + 1 + 1, 0, none⟩)] 32 (0, 0)) := by rw [← hV0]; exact heap_alloc_under _ (heap_alloc_under _ (heap_alloc_under _ (heap_alloc_at _ rfl)))
 have gbs : V0.heap[w1.heap.size + 1]? = some (Obj.cells #[.string (sOf (nlJ ls))] 9 (0, 0)) := by rw [← hV0]; exact heap_alloc_under _ (heap_alloc_under _ (heap_alloc_at _ (by simp)))
 have gbp : V0.heap[w1.heap.size + 1 + 1]? = some (Obj.cells #[.string ⟨#[10]⟩] 9 (0, 0)) := by rw [← hV0]; exact heap_alloc_under _ (heap_alloc_at _ (by simp))
 have gbv : V0.heap[w1.heap.size + 1 + 1 + 1]? = some (Obj.cells #[.int .i64 0] 3 (0, 0)) := by rw [← hV0]; exact heap_alloc_at _ (by simp)
 have hAg : AggSt V0 (w.heap.size + 1 + 1) (w.heap.size + 1) 0 (fun _ => 0) := by
  have h1 : (w.alloc (.cells #[.slice none 0 0] 101)).heap.size = w.heap.size + 1 := by simp
  rw [h1] at hA
  exact hA.below (kV1)
 have hG := hG0 _ _ V0 hAg kV (by omega) (by omega)
 rw [hV0]
 clear hV0 hA hb hb' kV1
 obtain ⟨ag, hag⟩ : ∃ ag, w.heap.size + 1 + 1 = ag := ⟨_, rfl⟩
 obtain ⟨mb, hmb⟩ : ∃ mb, w.heap.size + 1 = mb := ⟨_, rfl⟩
 have lag := lt_of_block hAg.hd
 have lmb := hAg.map.lt
 rw [hag] at gba hAg hG lag ⊢
 rw [hmb] at hAg hG lmb
 have hT : SeqStopsB (w1.heap.size + 1) Fence.wide 4 Tryz.prog 141 #[.pointer (some ⟨w1.heap.size + 1 + 1, 0, none⟩), .pointer (some ⟨w1.heap.size + 1, 0, none⟩), .pointer (some ⟨w1.heap.size + 1 + 1 + 1, 0, none⟩)] lnEnc (Upd fun k => ¬ (k = w1.heap.size + 1 ∨ k = w1.heap.size + 1 + 1 ∨ k = w1.heap.size + 1 + 1 + 1)) (fun ys => ys = ls) (fun pre => pre <+: ls) (fun pre => pre <+: ls) V0 := fun l J Jx W hW hJ _ hJb _ hY h0 =>
  split_in l _ _ _ ls hne (by omega) h10 hsz _ J Jx (by simp) (by simp) (by simp) (by omega) (by omega) W hJ hJb hY ((hW.block _ (lt_of_block gbs)).trans gbs) ((hW.block _ (lt_of_block gbp)).trans gbp) ((hW.block _ (lt_of_block gbv)).trans gbv) h0
 obtain ⟨i0, hi0, hz0, hzz1, hz2⟩ := info_parts (show (Tryz.prog.info? 9).map (fun i => (i.zero, i.size, i.bytes)) = some (some (.string ⟨#[]⟩), 1, 16) by kernel_rfl)
 refine wpIn_rangeFunc_B rfl (by decide) (gf := 141) (lb := #[.pointer (some ⟨w1.heap.size + 1 + 1, 0, none⟩), .pointer (some ⟨w1.heap.size + 1, 0, none⟩), .pointer (some ⟨w1.heap.size + 1 + 1 + 1, 0, none⟩)]) rfl trivial (enters_of Tryz.func141 (by kernel_rfl) rfl) (bs := w1.heap.size + 1) (by omega)
  hT (fun h1 h2 => h1.trans h2) ?gKb (Below.refl _ _) (fun _ => rfl)
  (fun pre W => RnSt w V0 W w.heap.size w1.heap.size ag mb outs (G ag mb) pre.length)
  (fun _ _ _ => False) ?gIb (fun _ _ _ _ h => h) ?gI ?gIx ?g0
  (fun x a' W => a' = { tmps := #[.string (sOf (nlJ ls)), undef, .slice none 0 0, .pointer (some ⟨w.heap.size, 0, none⟩), .pointer (some ⟨w1.heap.size, 0, none⟩), .string (sOf x), undef, undef, .string (sOf (nlJ ls)), .int .i64 (sOf (nlJ ls)).size, .bool (decide (1048576 < ((sOf (nlJ ls)).size : Int))), undef, undef, undef, .pointer (some ⟨ag, 0, none⟩), .string (sOf (nlJ ls)),
   .func (.func 141) #[] #[.pointer (some ⟨w1.heap.size + 1 + 1, 0, none⟩), .pointer (some ⟨w1.heap.size + 1, 0, none⟩), .pointer (some ⟨w1.heap.size + 1 + 1 + 1, 0, none⟩)], .string (sOf x), undef, undef, undef, undef, undef, undef, undef, undef, undef, undef, undef, undef], defers := [] })
  (fun _ _ => ownFrom_pure _ _) ?gassign ?gbody ?gdone ?gstop
 case g0 => exact ⟨⟨_, gbo, World.ownsRow_nil _ _ _ _⟩, gba, ⟨_, gbs⟩, ⟨_, gbp⟩, ⟨_, gbv⟩, hG, kV, Nat.le_refl _⟩
 case gIx => exact fun _ _ _ _ _ hs _ _ => hs
 case gKb => exact fun X l o o' hl ho h1 h2 => Upd.of_grown (grownBy_putObj' X l o') (by omega)
 case gIb =>
  rintro pre A v S
  have hg := grown_set A (w1.heap.size + 1) 0 v
  obtain ⟨u, hu⟩ := S.s1
  refine ⟨?_, (heap_setCell_other _ _ _ _ (by simp)).trans S.ab, ⟨v, one_setCell hu⟩, ?_, ?_, hGk _ _ _ _ _ _ S.g hg (fun r e => ?_), S.bw.setCell (by simp; omega) _, Nat.le_trans S.sz hg.size⟩
  ·obtain ⟨x, hx1, hx2⟩ := S.bx
   refine ⟨x, (heap_setCell_other _ _ _ _ (by simp; omega)).trans hx1, own_same hx2 (fun g hg' => heap_setCell_other _ _ _ _ ?_)⟩
   have := (hx2.lt g hg').1
   simp; omega
  ·obtain ⟨x, hx1⟩ := S.s2
   exact ⟨x, (heap_setCell_other _ _ _ _ (by simp)).trans hx1⟩
  ·obtain ⟨x, hx1⟩ := S.s3
   exact ⟨x, (heap_setCell_other _ _ _ _ (by simp; omega)).trans hx1⟩
  ·have e' : w1.heap.size + 1 = r := Option.some.inj e
   subst e'
   refine ⟨by omega, by omega, by omega, fun cs T fr h => ?_⟩
   rw [hu] at h; cases h; exact .inl rfl
 case gI =>
  intro pre A B row S hg hr
  refine S.own hg (fun r e => ⟨by have := (hr r e).1; omega, (hr r e).2⟩) (hGk _ _ _ _ _ _ S.g hg (fun r e => ?_))
  obtain ⟨h1, o, ho, hn⟩ := hr r e
  refine ⟨by omega, by omega, by omega, fun cs T fr h => ?_⟩
  rw [ho] at h; cases h; cases hn
 case gassign =>
  rintro l pre x W K hi hK
  unfold lnEnc
  gi_wp2
  exact hK _ _ (KeepsFrom.refl _ _) (Upd.refl _ _) hi rfl
 case gdone =>
  rintro D ys W hD rfl S hKD
  obtain ⟨v, hv, ho⟩ := S.bx
  have hlp : 0 < ys.length := List.length_pos_iff.2 hne
  obtain ⟨g, cc, rfl⟩ : ∃ g cc, v = .slice (some ⟨g, 0, none⟩) ys.length cc := by
   rcases ho.2 with ⟨_, h⟩ | ⟨g, cap, _, h, _⟩
   ·omega
   ·exact ⟨g, cap, h⟩
  have ct := cell_of_heap hv 0 _ rfl
  have HO := Lib.hid (And.intro ho S.bw)
  clear hT hv ho gbo gba gbs gbp gbv S
  gi_wp2_with fail
  refine ⟨by simp, .inl ⟨_, _, rfl, run_takeDeferred hKD, ?_⟩⟩
  refine ⟨.slice (some ⟨g, 0, none⟩) ys.length cc, by simp [results, Tryz.results46, go_sem], ?_⟩
  have g1 := grownBy_putObj' W D (.deferred none)
  exact ⟨⟨g, cc, rfl, own_base (ownsRow_putObj HO.out.1 _ hKD rfl) kV.size⟩, HO.out.2.grown g1 HO.out.2.size (fun k e => by cases e; omega)⟩
 case gstop =>
  rintro D c2 pre W _ _ h _
  exact h.elim
 case gbody =>
  rintro l pre x a' W hl _ S rfl hpre
  have hxk : ls[pre.length]? = some x := by
   obtain ⟨r, hr⟩ := hpre
   rw [← hr]; simp
  have HC := Lib.hid (hst ag mb pre.length x W hxk (by omega) (by omega) S.bw S.g)
  have ca := cell_of_heap S.ab 0 _ rfl
  have HS := Lib.hid S
  have hpl : pre.length < 1000 := by
   have := hpre.length_le
   rw [List.length_append, List.length_singleton] at this; omega
  clear hT gbo gba gbs gbp gbv S hxk
  gi_wp2_with fail
  refine ⟨trivial, ?_⟩
  refine (CallsIn.inRound l (callsIn_wide.2 HC.out)).mono ?_
  rintro e W3 ⟨rfl, hG3, hU3, hB3⟩
  have S := HS.out
  have notLF : ∀ (i : Nat) (cur : Array Value) (t : TypeId), W.heap[i]? = some (Obj.cells cur t (0, 0)) → t ≠ 2 → i ≠ ag → i ≠ mb → W3.heap[i]? = W.heap[i]? := by
   intro i cur t hk ht h1 h2
   refine hU3.block i (lt_of_block hk) ?_
   rintro (h | h | ⟨cur2, h⟩)
   ·exact h1 h
   ·exact h2 h
   ·rw [hk] at h; cases h; exact ht rfl
  obtain ⟨v, hv, ho⟩ := S.bx
  obtain ⟨vb, vc, rfl⟩ := own_form ho
  obtain ⟨v1, k1⟩ := S.s1
  obtain ⟨v2, k2⟩ := S.s2
  obtain ⟨v3, k3⟩ := S.s3
  have hv3 := (notLF _ _ _ hv (by decide) (by omega) (by omega)).trans hv
  have ha3 := (notLF _ _ _ S.ab (by decide) (by omega) (by omega)).trans S.ab
  have k13 := (notLF _ _ _ k1 (by decide) (by omega) (by omega)).trans k1
  have k23 := (notLF _ _ _ k2 (by decide) (by omega) (by omega)).trans k2
  have k33 := (notLF _ _ _ k3 (by decide) (by omega) (by omega)).trans k3
  have ho3 : W3.ownsRow V0.heap.size 9 1 (.slice vb pre.length vc) pre.length (outV outs pre.length) := own_same ho (fun g hg' => by
   rcases ho.2 with ⟨e, _⟩ | ⟨g2, cap, cur, e, hge, hc, _⟩
   ·rw [e] at hg'; cases hg'
   ·rw [e] at hg'
    have : g2 = g := by simpa [Value.ownBlock] using hg'
    subst this
    exact notLF _ _ _ hc (by decide) (by omega) (by omega))
  have hsz3 : V0.heap.size ≤ W3.heap.size := Nat.le_trans S.sz hU3.size
  have ct := cell_of_heap hv3 0 _ rfl
  have cf : W3.frozen? ⟨w.heap.size, 0, none⟩ = false := by simp [World.frozen?, hv3]
  have hKF := LF.keeps (B := V0.heap.size) hU3 (by omega) (by omega)
  have hoa := ho3.alloc (.cells #[.string (sOf (outs pre.length))] 9)
  have hUF : Upd (fun k => ¬ (k = w1.heap.size + 1 ∨ k = w1.heap.size + 1 + 1 ∨ k = w1.heap.size + 1 + 1 + 1)) W W3 := hU3.mono (by
   rintro k (h | h | ⟨cur2, h⟩) hn
   ·omega
   ·omega
   ·rcases hn with e | e | e
    ·subst e; rw [k1] at h; cases h
    ·subst e; rw [k2] at h; cases h
    ·subst e; rw [k3] at h; cases h)
  have H3 := Lib.hid (And.intro hv3 (And.intro ha3 (And.intro k13 (And.intro k23 (And.intro k33 (And.intro ho3 (And.intro hG3 (And.intro hKF (And.intro hUF hB3)))))))))
  have hlb := lt_of_block hv3
  clear S hv ho k1 k2 k3 hv3 ha3 k13 k23 k33 ho3 hG3 hKF hUF hB3 notLF hU3 HS ca
  gi_wp2_with (gi_at_builtin; go_loud (refine wpListIn_append_own _ rfl _ _ 101 rfl V0.heap.size 9 i0 (.string ⟨#[]⟩) 1 16 Tryz.underlying101 hi0 hz0 hzz1 hz2 rfl (by decide) _ _ _ rfl hoa ⟨W3.heap.size, 0, none⟩ 1 1 [.string (sOf (outs pre.length))] rfl rfl ?c1 ?c2 ?c3 ?c4 ?c5 ?_))
  case c1 =>
   intro j u hj
   match j, hj with
   | 0, hj => simp at hj; subst hj; simp [Addr.add]
  case c2 => intro u hu; simp at hu; subst hu; rfl
  case c3 => unfold maxLen; omega
  case c4 => omega
  case c5 => simp; omega
  intro v' w6 hown hgrow _
  obtain ⟨vb', vc', hvf⟩ := own_form hown
  obtain ⟨hv3, ha3, k13, k23, k33, ho3, hG3, hKF, hUF, hB3⟩ := H3.out
  obtain ⟨b1, b2, b3, b4, b5⟩ := Boxed.appended (n₀ := w.heap.size) hv3 (by decide) (own_base ho3 (by omega)) (by omega) (Nat.le_refl _) (own_base hown (by omega)) hgrow
  have q1 := b1.cell
  have q2 := b1.frozen
  have hrl : ∀ r, (Value.slice vb pre.length vc).ownBlock = some r → V0.heap.size ≤ r := fun r e => (ho3.lt r e).1
  have hrt : ∀ r, (Value.slice vb pre.length vc).ownBlock = some r → ∃ cur, W3.heap[r]? = some (Obj.cells cur 9 (0, 0)) := fun r e => by
   rcases ho3.2 with ⟨e1, _⟩ | ⟨g2, cap, cur, e1, hge, hc, _⟩
   ·rw [e1] at e; cases e
   ·rw [e1] at e
    have : g2 = r := by simpa [Value.ownBlock] using e
    subst this
    exact ⟨cur, hc⟩
  have g6 : W3.grownBy w6 (Value.slice vb pre.length vc).ownBlock := grown_trans (World.grownBy_alloc W3 _ _) hgrow
  have g7 := grown_set w6 w.heap.size 0 v'
  have kb : ∀ (i : Nat) (o : Obj), W3.heap[i]? = some o → i < V0.heap.size → i ≠ w.heap.size → (w6.setCell ⟨w.heap.size, 0, none⟩ v').heap[i]? = some o := fun i o hi h1 h2 =>
   (heap_setCell_other _ _ _ _ (by dsimp only; exact h2)).trans ((g6.block i (by omega) (fun e => by have := hrl i e.symm; omega)).trans hi)
  have hg6 : G ag mb (pre.length + 1) w6 := hGk _ _ _ _ _ _ hG3 g6 (fun r e => by
   have h1 := hrl r e
   obtain ⟨cur, h2⟩ := hrt r e
   refine ⟨by omega, by omega, by omega, fun cs T fr h => ?_⟩
   rw [h2] at h; cases h; exact .inl rfl)
  have hg7 : G ag mb (pre.length + 1) (w6.setCell ⟨w.heap.size, 0, none⟩ v') := hGk _ _ _ _ _ _ hg6 g7 (fun r e => by
   have e' : w.heap.size = r := Option.some.inj e
   subst e'
   refine ⟨by omega, by omega, by omega, fun cs T fr h => ?_⟩
   have b1' : w6.heap[w.heap.size]? = some (Obj.cells #[.slice vb pre.length vc] 101 (0, 0)) := b1
   rw [b1'] at h; cases h; exact .inr rfl)
  have hfin : KeepsFrom V0.heap.size W (w6.setCell ⟨w.heap.size, 0, none⟩ v') ∧ Upd (fun k => ¬ (k = w1.heap.size + 1 ∨ k = w1.heap.size + 1 + 1 ∨ k = w1.heap.size + 1 + 1 + 1)) W (w6.setCell ⟨w.heap.size, 0, none⟩ v') ∧ RnSt w V0 (w6.setCell ⟨w.heap.size, 0, none⟩ v') w.heap.size w1.heap.size ag mb outs (G ag mb) (pre ++ [x]).length := by
   refine ⟨hKF.trans (b4.from _), (hUF.trans (Upd.of_row g6 (fun r e => by have := hrl r e; omega))).trans (Upd.of_grown g7 (by omega)), ?_⟩
   rw [List.length_append, List.length_singleton]
   refine ⟨⟨v', b2, ?_⟩, kb _ _ ha3 (by omega) (by omega), ⟨v1, kb _ _ k13 (by omega) (by omega)⟩, ⟨v2, kb _ _ k23 (by omega) (by omega)⟩, ⟨v3, kb _ _ k33 (by omega) (by omega)⟩, hg7, hB3.trans b5, ?_⟩
   ·rw [outV_succ]
    refine own_same (by rw [szV]; exact hown) (fun g hg' => heap_setCell_other _ _ _ _ ?_)
    have := (hown.lt g hg').1
    dsimp only; omega
   ·have := g6.size; have := g7.size; omega
  have HF := Lib.hid hfin
  rw [hvf] at HF
  subst hvf
  clear hfin hg6 hg7 kb g6 g7 hrl hrt b1 b2 b3 b4 b5 hv3 ha3 k13 k23 k33 ho3 hG3 hKF hUF hB3 hown hgrow hoa H3
  gi_wp2_with fail
  exact HF.out
end Go.Proofs.YtbhppbeepmllaaaGreatDoor

namespace Go.Proofs.YtbhppbeepmllaaaGreatDoor
open Go.RowKit

def c0 : Cfg := ⟨2, 1, 4, 1, 0⟩
theorem c0_ok : c0.Ok := ⟨by decide, by decide, by decide, by decide, by decide, by decide, by decide, by decide, by decide⟩
def lsW : List (List UInt8) := [[99, 114, 101, 97, 116, 101, 32, 50, 32, 49, 32, 52, 32, 49, 32, 48], [97, 100, 100, 32, 49, 32, 51, 32, 53], [97, 100, 100, 32, 49, 32, 49, 32, 50], [114, 97, 110, 103, 101, 32, 49, 32, 49, 32, 50], [113, 117, 97, 110, 116, 105, 108, 101, 32, 49, 32, 51], [104, 101, 97, 118, 121, 32, 49, 32, 53, 32, 57], [105, 110, 110, 101, 114, 32, 49, 32, 49]]
def osW : List (List UInt8) := [[104, 97, 110, 100, 108, 101, 32, 49], [100, 111, 110, 101], [100, 111, 110, 101], [110, 117, 109, 98, 101, 114, 32, 50], [107, 101, 121, 32, 51], [108, 105, 115, 116, 32, 50, 58, 48, 58, 55, 32, 49, 58, 49, 58, 53, 32, 48, 58, 51, 58, 53], [119, 105, 100, 101, 32, 50, 57]]
def wkC (k : Nat) : List Int × List Int × List Int := if k ≤ 1 then ([0, 0, 0, 0], [0, 0], [0]) else if k = 2 then ([0, 0, 0, 5], [0, 5], [5]) else ([0, 2, 0, 5], [2, 5], [7])
def CsIs (cs : Nat → List Int) (a : List Int × List Int × List Int) : Prop := cs 0 = a.1 ∧ cs 1 = a.2.1 ∧ cs 2 = a.2.2
theorem c0_keys (l : Nat) : c0.keys l ≤ c0.wd := by
 unfold Cfg.keys
 have : 2 ^ (c0.b - l) ≤ 2 ^ 2 := Nat.pow_le_pow_right (by decide) (by show 2 - l ≤ 2; omega)
 exact this
theorem cs_zero : CsIs (zeroC c0) (wkC 1) := ⟨rfl, rfl, rfl⟩
theorem cs_fed {cs : Nat → List Int} {a : List Int × List Int × List Int} (h : CsIs cs a) (key : Nat) (d : Int) : CsIs (stFed c0 key d cs) (a.1.set key (a.1.getD key 0 + d), a.2.1.set (key / 2) (a.2.1.getD (key / 2) 0 + d), a.2.2.set (key / 4) (a.2.2.getD (key / 4) 0 + d)) := by
 obtain ⟨h0, h1, h2⟩ := h
 refine ⟨?_, ?_, ?_⟩
 ·unfold stFed Cfg.lvFed; rw [if_pos (by decide), if_pos (c0_keys 0), h0]; simp
 ·unfold stFed Cfg.lvFed; rw [if_pos (by decide), if_pos (c0_keys 1), h1]
 ·unfold stFed Cfg.lvFed; rw [if_pos (by decide), if_pos (c0_keys 2), h2]
theorem cs_told {cs : Nat → List Int} (l i : Nat) : c0.lvTold l i (cs l) = (cs l).getD i 0 := by
 unfold Cfg.lvTold; rw [if_pos (c0_keys l)]
theorem cs_bd {cs : Nat → List Int} {k : Nat} (h : CsIs cs (wkC k)) : ∀ l, l ≤ 2 → Bd 10 (cs l) := by
 obtain ⟨h0, h1, h2⟩ := h
 intro l hl x hx
 have e : l = 0 ∨ l = 1 ∨ l = 2 := by omega
 unfold wkC at h0 h1 h2
 rcases e with rfl | rfl | rfl
 ·rw [h0] at hx; split at hx
  ·simp at hx; omega
  ·split at hx <;> simp at hx <;> omega
 ·rw [h1] at hx; split at hx
  ·simp at hx; omega
  ·split at hx <;> simp at hx <;> omega
 ·rw [h2] at hx; split at hx
  ·simp at hx; omega
  ·split at hx <;> simp at hx <;> omega
theorem told_fun {cs : Nat → List Int} (h : CsIs cs (wkC 3)) (l i : Nat) (hl : l ≤ 2) : c0.lvTold l i (cs l) = (if l = 0 then [0, 2, 0, 5] else if l = 1 then [2, 5] else [7] : List Int).getD i 0 := by
 rw [cs_told]
 have e : l = 0 ∨ l = 1 ∨ l = 2 := by omega
 rcases e with rfl | rfl | rfl
 ·rw [h.1]; rfl
 ·rw [h.2.1]; rfl
 ·rw [h.2.2]; rfl
def GW (B ag mb k : Nat) (W : World) : Prop :=
 (k = 0 ∧ AggSt W ag mb 0 (fun _ => 0) ∧ Tab W) ∨
 (1 ≤ k ∧ ∃ sd lb lcap vs cs, Ag (foot ag mb 1 vs c0) W ag mb 1 sd lb lcap vs c0 cs ∧ CsIs (cs 1) (wkC k) ∧ ∀ i, foot ag mb 1 vs c0 i → B ≤ i)
theorem GW.away {B ag mb k : Nat} {A C : World} {row : Option Nat} (h : GW B ag mb k A) (hg : A.grownBy C row) (hr : ∀ r, row = some r → AwayB ag mb A r) : GW B ag mb k C := by
 rcases h with ⟨h0, h1, h2⟩ | ⟨h0, sd, lb, lcap, vs, cs, h1, h2⟩
 ·exact .inl ⟨h0, h1.same (hg.block ag (lt_of_block h1.hd) (fun e => (hr _ e.symm).2.1 rfl)) (hg.block mb h1.map.lt (fun e => (hr _ e.symm).2.2.1 rfl)), h2.keep (hg.block 4 h2.lt (fun e => (hr _ e.symm).1 rfl))⟩
 ·exact .inr ⟨h0, sd, lb, lcap, vs, cs, h1.away hg hr, h2⟩
theorem below_upd {F : Nat → Prop} {w W W' : World} (hb : Below w.heap.size w W) (hu : Upd F W W') (hF : ∀ i, i < W.heap.size → F i → w.heap.size ≤ i) : Below w.heap.size w W' :=
 ⟨hu.os.trans hb.os, hu.tape.trans hb.tape, hu.output.trans hb.output, Nat.le_trans hb.size hu.size, fun k hk => (hu.block k (Nat.lt_of_lt_of_le hk hb.size) (fun h => by have := hF k (Nat.lt_of_lt_of_le hk hb.size) h; omega)).trans (hb.block k hk)⟩
theorem ln_eq (l v : List UInt8) (ks : List Int) (h : l = lnB v ks) : (sOf l).data.toList = lnB v ks := h
theorem itoa_small (n : Nat) (h : n < 10) : Lib.itoa (n : Int) = [UInt8.ofNat (48 + n)] := by
 rw [Lib.itoa_nonneg, Lib.decDigits, dif_pos (by omega)]
theorem lnB_digits (v : List UInt8) (ns : List Nat) (h : ∀ n ∈ ns, n < 10) : lnB v (ns.map fun n : Nat => (n : Int)) = v ++ ns.flatMap fun n => [32, UInt8.ofNat (48 + n)] := by
 unfold lnB
 congr 1
 induction ns with
 | nil => rfl
 | cons n r ih =>
  have h1 := itoa_small n (h n (by simp))
  simp only [List.map_cons, List.flatMap_cons, h1, ih (fun x hx => h x (by simp [hx]))]
theorem ln_is {l v : List UInt8} {ks : List Int} (ns : List Nat) (hk : ks = ns.map fun n : Nat => (n : Int)) (h : ∀ n ∈ ns, n < 10) (hl : l = v ++ ns.flatMap fun n => [32, UInt8.ofNat (48 + n)]) : (sOf l).data.toList = lnB v ks := by
 rw [hk, lnB_digits v ns h]; exact hl
theorem stepW0 (w : World) (h4 : 4 < w.heap.size) (ag mb : Nat) (x : List UInt8) (W : World) (hx : lsW[0]? = some x) (hag : w.heap.size ≤ ag) (hmb : w.heap.size ≤ mb) (hb : Below w.heap.size w W) (hG : GW w.heap.size ag mb 0 W) :
  Calls Tryz.prog 13 #[.pointer (some ⟨ag, 0, none⟩), .string (sOf x)] W fun e W' => e = .returned (.tuple #[.string (sOf (osW.getD 0 [])), .bool true]) ∧ GW w.heap.size ag mb (0 + 1) W' ∧ Upd (LF ag mb W) W W' ∧ Below w.heap.size w W' := by
 obtain ⟨_, hA, hT⟩ := hG.resolve_right (by rintro ⟨h, _⟩; omega)
 cases hx
 have hbs := hb.size
 have A : Ag (fun i => i = ag ∨ i = mb ∨ W.heap.size ≤ i) W ag mb 0 (fun _ => 0) (fun _ => 0) (fun _ => 0) (fun _ _ => ⟨0, 0, 0, 0⟩) c0 (fun _ _ => []) :=
  ⟨hA, hT, fun h h1 h2 => by omega, fun h k h1 h2 => by omega, .inl rfl, .inr (.inl rfl), fun h h1 h2 => by omega, by omega⟩
 refine (ln_create A c0_ok (by decide) (fun i hi => .inr (.inr hi)) 0 (by decide) (by rfl) (sOf _) (ln_is [2, 1, 4, 1, 0] rfl (by decide) rfl)).mono ?_
 rintro e W' ⟨rfl, ⟨st, lb1, lc1, us, A2⟩, hu⟩
 refine ⟨by rw [itoa_small (0 + 1) (by decide)]; rfl, .inr ⟨by omega, _, _, _, _, _, A2.refoot, ?_, ?_⟩, hu.lower ?_, below_upd hb hu ?_⟩
 ·rw [put1_same]; exact cs_zero
 ·rintro i (h | h | ⟨h, h1, h2, h3⟩)
  ·omega
  ·omega
  ·rcases A2.pc h h1 h2 i h3 with h | h | h <;> omega
 ·rintro i hi (h | h | h)
  ·exact .inl h
  ·exact .inr (.inl h)
  ·omega
 ·rintro i hi (h | h | h) <;> omega
theorem stepW1 (w : World) (h4 : 4 < w.heap.size) (ag mb : Nat) (x : List UInt8) (W : World) (hx : lsW[1]? = some x) (hag : w.heap.size ≤ ag) (hmb : w.heap.size ≤ mb) (hb : Below w.heap.size w W) (hG : GW w.heap.size ag mb 1 W) :
  Calls Tryz.prog 13 #[.pointer (some ⟨ag, 0, none⟩), .string (sOf x)] W fun e W' => e = .returned (.tuple #[.string (sOf (osW.getD 1 [])), .bool true]) ∧ GW w.heap.size ag mb (1 + 1) W' ∧ Upd (LF ag mb W) W W' ∧ Below w.heap.size w W' := by
 obtain ⟨_, sd, lb, lcap, vs, cs, A, hc, hl⟩ := hG.resolve_left (by rintro ⟨h, _⟩; omega)
 cases hx
 refine (ln_add A c0_ok (by decide) 1 3 5 10 10 (by decide) (by decide) (by decide) (by decide) (by decide) (by decide) (by decide) (by decide) (cs_bd hc) (sOf _) (ln_is [1, 3, 5] rfl (by decide) rfl)).mono ?_
 rintro e W' ⟨rfl, A2, hu⟩
 refine ⟨rfl, .inr ⟨by omega, sd, lb, lcap, vs, _, A2, ?_, hl⟩, hu.mono A.footLF, below_upd hb hu (fun i _ h => hl i h)⟩
 simp only [if_true]
 exact cs_fed hc 3 5
theorem stepW2 (w : World) (h4 : 4 < w.heap.size) (ag mb : Nat) (x : List UInt8) (W : World) (hx : lsW[2]? = some x) (hag : w.heap.size ≤ ag) (hmb : w.heap.size ≤ mb) (hb : Below w.heap.size w W) (hG : GW w.heap.size ag mb 2 W) :
  Calls Tryz.prog 13 #[.pointer (some ⟨ag, 0, none⟩), .string (sOf x)] W fun e W' => e = .returned (.tuple #[.string (sOf (osW.getD 2 [])), .bool true]) ∧ GW w.heap.size ag mb (2 + 1) W' ∧ Upd (LF ag mb W) W W' ∧ Below w.heap.size w W' := by
 obtain ⟨_, sd, lb, lcap, vs, cs, A, hc, hl⟩ := hG.resolve_left (by rintro ⟨h, _⟩; omega)
 cases hx
 refine (ln_add A c0_ok (by decide) 1 1 2 10 10 (by decide) (by decide) (by decide) (by decide) (by decide) (by decide) (by decide) (by decide) (cs_bd hc) (sOf _) (ln_is [1, 1, 2] rfl (by decide) rfl)).mono ?_
 rintro e W' ⟨rfl, A2, hu⟩
 refine ⟨rfl, .inr ⟨by omega, sd, lb, lcap, vs, _, A2, ?_, hl⟩, hu.mono A.footLF, below_upd hb hu (fun i _ h => hl i h)⟩
 simp only [if_true]
 exact cs_fed hc 1 2
theorem told_bd {cs : Nat → List Int} (h : CsIs cs (wkC 3)) (M : Int) (hM : 10 ≤ M) : ∀ l i, l ≤ c0.b → i < c0.keys l → -M ≤ c0.lvTold l i (cs l) ∧ c0.lvTold l i (cs l) ≤ M := by
 intro l i hl _
 rw [cs_told]
 have := (cs_bd h l hl).getD (by decide) i
 omega
theorem stepW3 (w : World) (h4 : 4 < w.heap.size) (ag mb : Nat) (x : List UInt8) (W : World) (hx : lsW[3]? = some x) (hag : w.heap.size ≤ ag) (hmb : w.heap.size ≤ mb) (hb : Below w.heap.size w W) (hG : GW w.heap.size ag mb 3 W) :
  Calls Tryz.prog 13 #[.pointer (some ⟨ag, 0, none⟩), .string (sOf x)] W fun e W' => e = .returned (.tuple #[.string (sOf (osW.getD 3 [])), .bool true]) ∧ GW w.heap.size ag mb (3 + 1) W' ∧ Upd (LF ag mb W) W W' ∧ Below w.heap.size w W' := by
 obtain ⟨_, sd, lb, lcap, vs, cs, A, hc, hl⟩ := hG.resolve_left (by rintro ⟨h, _⟩; omega)
 cases hx
 have hc3 : CsIs (cs 1) (wkC 3) := hc
 have hcov : cov 61 0 1 2 = [(0, 1), (0, 2)] := by decide
 have hr : sumI ((cov 61 0 1 2).map fun p => c0.lvTold p.1 p.2 (cs 1 p.1)) = 2 := by
  rw [hcov]
  simp only [List.map_cons, List.map_nil]
  rw [told_fun hc3 0 1 (by decide), told_fun hc3 0 2 (by decide)]
  rfl
 refine (ln_range A c0_ok (by decide) 1 (by decide) (by decide) 1 2 2 hr (by decide) (by decide) (told_bd hc3 _ (by decide)) (by decide) (sOf _) (ln_is [1, 1, 2] rfl (by decide) rfl)).mono ?_
 rintro e W' ⟨rfl, hb2⟩
 refine ⟨by rw [show Lib.itoa (2 : Int) = [50] from itoa_small 2 (by decide)]; rfl, .inr ⟨by omega, sd, lb, lcap, vs, cs, A.below hb2, hc, hl⟩, Upd.of_below hb2, hb.trans (hb2.mono hb.size)⟩
theorem stepW4 (w : World) (h4 : 4 < w.heap.size) (ag mb : Nat) (x : List UInt8) (W : World) (hx : lsW[4]? = some x) (hag : w.heap.size ≤ ag) (hmb : w.heap.size ≤ mb) (hb : Below w.heap.size w W) (hG : GW w.heap.size ag mb 4 W) :
  Calls Tryz.prog 13 #[.pointer (some ⟨ag, 0, none⟩), .string (sOf x)] W fun e W' => e = .returned (.tuple #[.string (sOf (osW.getD 4 [])), .bool true]) ∧ GW w.heap.size ag mb (4 + 1) W' ∧ Upd (LF ag mb W) W W' ∧ Below w.heap.size w W' := by
 obtain ⟨_, sd, lb, lcap, vs, cs, A, hc, hl⟩ := hG.resolve_left (by rintro ⟨h, _⟩; omega)
 cases hx
 have hc3 : CsIs (cs 1) (wkC 3) := hc
 have hr : wayI (fun l i => c0.lvTold l i (cs 1 l)) c0.b 0 3 = 3 := by
  show wayI (fun l i => c0.lvTold l i (cs 1 l)) 2 0 3 = 3
  have e10 : c0.lvTold 1 0 (cs 1 1) = 2 := told_fun hc3 1 0 (by decide)
  have e02 : c0.lvTold 0 2 (cs 1 0) = 0 := told_fun hc3 0 2 (by decide)
  simp [wayI, e10, e02]
 refine (ln_quant A c0_ok (by decide) 1 (by decide) (by decide) 3 10 3 hr (by decide) (by rw [show cs 1 c0.b = [7] from hc3.2.2]; decide) (by decide) (told_bd hc3 _ (by decide)) (by decide) (by decide) (sOf _) (ln_is [1, 3] rfl (by decide) rfl)).mono ?_
 rintro e W' ⟨rfl, hb2⟩
 refine ⟨by rw [itoa_small 3 (by decide)]; rfl, .inr ⟨by omega, sd, lb, lcap, vs, cs, A.below hb2, hc, hl⟩, Upd.of_below hb2, hb.trans (hb2.mono hb.size)⟩
theorem stepW5 (w : World) (h4 : 4 < w.heap.size) (ag mb : Nat) (x : List UInt8) (W : World) (hx : lsW[5]? = some x) (hag : w.heap.size ≤ ag) (hmb : w.heap.size ≤ mb) (hb : Below w.heap.size w W) (hG : GW w.heap.size ag mb 5 W) :
  Calls Tryz.prog 13 #[.pointer (some ⟨ag, 0, none⟩), .string (sOf x)] W fun e W' => e = .returned (.tuple #[.string (sOf (osW.getD 5 [])), .bool true]) ∧ GW w.heap.size ag mb (5 + 1) W' ∧ Upd (LF ag mb W) W W' ∧ Below w.heap.size w W' := by
 obtain ⟨_, sd, lb, lcap, vs, cs, A, hc, hl⟩ := hG.resolve_left (by rintro ⟨h, _⟩; omega)
 cases hx
 have hc3 : CsIs (cs 1) (wkC 3) := hc
 have hr : hvGo (fun l i => c0.lvTold l i (cs 1 l)) 5 9 (c0.b + 1) 0 [(c0.b, 0)] [] = some [((2, 0), 7), ((1, 1), 5), ((0, 3), 5)] := by
  show hvGo (fun l i => c0.lvTold l i (cs 1 l)) 5 9 3 0 [(2, 0)] [] = _
  have t20 := told_fun hc3 2 0 (by decide)
  have t10 := told_fun hc3 1 0 (by decide)
  have t11 := told_fun hc3 1 1 (by decide)
  have t02 := told_fun hc3 0 2 (by decide)
  have t03 := told_fun hc3 0 3 (by decide)
  have e20 : c0.lvTold 2 0 (cs 1 2) = 7 := t20
  have e10 : c0.lvTold 1 0 (cs 1 1) = 2 := t10
  have e11 : c0.lvTold 1 1 (cs 1 1) = 5 := t11
  have e02 : c0.lvTold 0 2 (cs 1 0) = 0 := t02
  have e03 : c0.lvTold 0 3 (cs 1 0) = 5 := t03
  simp [hvGo, hvNext, hvKeep, e20, e10, e11, e02, e03]
 refine (ln_heavy A c0_ok (by decide) 1 (by decide) (by decide) 5 9 (by decide) (by decide) (by decide) _ hr (by decide) (by intro f hf; simp at hf; rcases hf with rfl | rfl | rfl <;> exact ⟨by decide, by decide, by decide, by decide⟩) (sOf _) (ln_is [1, 5, 9] rfl (by decide) rfl)).mono ?_
 rintro e W' ⟨rfl, hb2⟩
 refine ⟨by
  have i7 : Lib.itoa (7 : Int) = [55] := itoa_small 7 (by decide)
  have i5 : Lib.itoa (5 : Int) = [53] := itoa_small 5 (by decide)
  simp only [listL, itemL, List.flatMap_cons, List.flatMap_nil, itoa_small 2 (by decide), itoa_small 1 (by decide), itoa_small 0 (by decide), itoa_small 3 (by decide), i7, i5]
  rfl, .inr ⟨by omega, sd, lb, lcap, vs, cs, A.below hb2, hc, hl⟩, Upd.of_below hb2, hb.trans (hb2.mono hb.size)⟩
theorem stepW6 (w : World) (h4 : 4 < w.heap.size) (ag mb : Nat) (x : List UInt8) (W : World) (hx : lsW[6]? = some x) (hag : w.heap.size ≤ ag) (hmb : w.heap.size ≤ mb) (hb : Below w.heap.size w W) (hG : GW w.heap.size ag mb 6 W) :
  Calls Tryz.prog 13 #[.pointer (some ⟨ag, 0, none⟩), .string (sOf x)] W fun e W' => e = .returned (.tuple #[.string (sOf (osW.getD 6 [])), .bool true]) ∧ GW w.heap.size ag mb (6 + 1) W' ∧ Upd (LF ag mb W) W W' ∧ Below w.heap.size w W' := by
 obtain ⟨_, sd, lb, lcap, vs, cs, A, hc, hl⟩ := hG.resolve_left (by rintro ⟨h, _⟩; omega)
 cases hx
 have hc3 : CsIs (cs 1) (wkC 3) := hc
 have h0 : cs 1 0 = [0, 2, 0, 5] := hc3.1
 have hr : c0.inner 0 (cs 1 0) (cs 1 0) = 29 := by
  unfold Cfg.inner; rw [if_pos (c0_keys 0), h0]; decide
 have hI : InnerOk c0 (cs 1 0) (cs 1 0) := by
  rw [h0]
  refine ⟨by decide, by decide, fun _ k => ?_, fun h => absurd (c0_keys 0) h⟩
  match k with
  | 0 => decide
  | 1 => decide
  | 2 => decide
  | 3 => decide
  | k + 4 =>
   have : dotK [0, 2, 0, 5] [0, 2, 0, 5] (k + 4) = 29 := by unfold dotK; rw [List.take_of_length_le (by simp [zipI])]; decide
   rw [this]; decide
 have hv := hr
 refine (ln_inner A c0_ok (by decide) 1 1 (by decide) (by decide) (by decide) (by decide) rfl hI (by rw [hr]; decide) (sOf _) (ln_is [1, 1] rfl (by decide) rfl)).mono ?_
 rintro e W' ⟨rfl, hb2⟩
 refine ⟨by
  rw [hr]
  have i29 : Lib.itoa (29 : Int) = [50, 57] := by
   have : Lib.itoa ((29 : Nat) : Int) = [50, 57] := by
    rw [Lib.itoa_nonneg, Lib.decDigits, dif_neg (by decide), Lib.decDigits, dif_pos (by decide)]; rfl
   exact this
  rw [i29]; rfl, .inr ⟨by omega, sd, lb, lcap, vs, cs, A.below hb2, hc, hl⟩, Upd.of_below hb2, hb.trans (hb2.mono hb.size)⟩
theorem stepW (w : World) (h4 : 4 < w.heap.size) (ag mb k : Nat) (x : List UInt8) (W : World) (hx : lsW[k]? = some x) (hag : w.heap.size ≤ ag) (hmb : w.heap.size ≤ mb) (hb : Below w.heap.size w W) (hG : GW w.heap.size ag mb k W) :
  Calls Tryz.prog 13 #[.pointer (some ⟨ag, 0, none⟩), .string (sOf x)] W fun e W' => e = .returned (.tuple #[.string (sOf (osW.getD k [])), .bool true]) ∧ GW w.heap.size ag mb (k + 1) W' ∧ Upd (LF ag mb W) W W' ∧ Below w.heap.size w W' := by
 match k, hx, hG with
 | 0, hx, hG => exact stepW0 w h4 ag mb x W hx hag hmb hb hG
 | 1, hx, hG => exact stepW1 w h4 ag mb x W hx hag hmb hb hG
 | 2, hx, hG => exact stepW2 w h4 ag mb x W hx hag hmb hb hG
 | 3, hx, hG => exact stepW3 w h4 ag mb x W hx hag hmb hb hG
 | 4, hx, hG => exact stepW4 w h4 ag mb x W hx hag hmb hb hG
 | 5, hx, hG => exact stepW5 w h4 ag mb x W hx hag hmb hb hG
 | 6, hx, hG => exact stepW6 w h4 ag mb x W hx hag hmb hb hG
 | k + 7, hx, hG => cases hx
theorem runW (w : World) (ht : Tab w) : Calls Tryz.prog 46 #[.string (sOf (nlJ lsW))] w fun e w' => (∃ g cc, e = .returned (.slice (some ⟨g, 0, none⟩) 7 cc) ∧ w'.ownsRow w.heap.size 9 1 (.slice (some ⟨g, 0, none⟩) 7 cc) 7 (outV (fun k => osW.getD k []) 7)) ∧ Below w.heap.size w w' := by
 refine run_any lsW (fun k => osW.getD k []) (GW w.heap.size) (by decide) (by decide) (by decide) (by decide) w ht.lt ?_ ?_ ?_
 ·intro ag mb W hA hb h1 h2
  exact .inl ⟨rfl, hA, ht.below hb ht.lt⟩
 ·intro ag mb k A B row hG hg hr
  exact hG.away hg hr
 ·intro ag mb k x W hx h1 h2 hb hG
  exact stepW w ht.lt ag mb k x W hx h1 h2 hb hG
theorem sOf_toList (l : List UInt8) : (sOf l).toList = l := by
 simp [sOf]
theorem works_any (w : World) (ht : Tab w) : Calls Tryz.prog 10 #[] w fun e w' => e = .returned (.bool true) ∧ Below w.heap.size w w' := by
 have HR := Lib.hid (runW w ht)
 clear ht
 go_enter Tryz.func10, Tryz.ntmps10
 go_wp2_with fail
 refine HR.out.mono ?_
 rintro e w1 ⟨⟨g, cc, rfl, ho⟩, hb⟩
 have c3 := (ho.cellAt 3 (by decide)).trans (show _ = some (Value.string (sOf [110, 117, 109, 98, 101, 114, 32, 50])) from rfl)
 have c4 := (ho.cellAt 4 (by decide)).trans (show _ = some (Value.string (sOf [107, 101, 121, 32, 51])) from rfl)
 have c5 := (ho.cellAt 5 (by decide)).trans (show _ = some (Value.string (sOf [108, 105, 115, 116, 32, 50, 58, 48, 58, 55, 32, 49, 58, 49, 58, 53, 32, 48, 58, 51, 58, 53])) from rfl)
 have c6 := (ho.cellAt 6 (by decide)).trans (show _ = some (Value.string (sOf [119, 105, 100, 101, 32, 50, 57])) from rfl)
 have h3 := sOf_toList [110, 117, 109, 98, 101, 114, 32, 50]
 have h4 := sOf_toList [107, 101, 121, 32, 51]
 have h5 := sOf_toList [108, 105, 115, 116, 32, 50, 58, 48, 58, 55, 32, 49, 58, 49, 58, 53, 32, 48, 58, 51, 58, 53]
 have h6 := sOf_toList [119, 105, 100, 101, 32, 50, 57]
 clear HR ho
 go_wp2_with fail
 go_ret
 exact ⟨by simp, hb⟩
end Go.Proofs.YtbhppbeepmllaaaGreatDoor

namespace Go.Proofs.YtbhppbeepmllaaaGreatDoor
open Go.RowKit

theorem LevelOk.headsB {w : World} {v : Lv} {c : Cfg} {l : Nat} {cells : List Int} (h : LevelOk w v c l cells) : (∃ cur t, w.heap[v.a]? = some (.cells cur t (0, 0)) ∧ t ≠ 37 ∧ t ≠ 22 ∧ t ≠ 2) ∧ (∃ cur t, w.heap[v.g]? = some (.cells cur t (0, 0)) ∧ t ≠ 37 ∧ t ≠ 22 ∧ t ≠ 2) := by
 by_cases he : c.keys l ≤ c.wd
 ·exact ⟨⟨_, _, (h.arr he).hd, by decide⟩, ⟨_, _, (h.arr he).grid.hd, by decide⟩⟩
 ·exact ⟨⟨_, _, (h.sk he).hd, by decide⟩, ⟨_, _, (h.sk he).grid.hd, by decide⟩⟩
variable {P : Nat → Prop} {B0 : Nat} {w w' w1 : World} {bd ag mb n : Nat} {sd lb lcap : Nat → Nat} {vs : Nat → Nat → Lv} {c : Cfg} {cs cs' : Nat → Nat → List Int} {K K' : List Nat} {F F' L : Nat → List Int} {kv kv' : Value} {fv fv' : Nat → Value}
theorem Ag.aside {G : Nat → Prop} (A : Ag P w ag mb n sd lb lcap vs c cs) (hu : Upd G w w') (hG : ∀ k, G k → k < w.heap.size → ¬ foot ag mb n vs c k ∧ k ≠ 4 ∧ ∃ cur t, w.heap[k]? = some (Obj.cells cur t (0, 0)) ∧ (t = 37 ∨ t = 22 ∨ t = 2)) : Ag P w' ag mb n sd lb lcap vs c cs := by
 have key : ∀ (k : Nat) (cur : Array Value) (t : TypeId), w.heap[k]? = some (Obj.cells cur t (0, 0)) → t ≠ 37 ∧ t ≠ 22 ∧ t ≠ 2 → w'.heap[k]? = w.heap[k]? := by
  intro k cur t hk ht
  refine hu.block k (lt_of_block hk) (fun e => ?_)
  obtain ⟨_, _, cur2, t2, h1, h2⟩ := hG k e (lt_of_block hk)
  rw [hk] at h1
  simp at h1
  obtain ⟨_, rfl⟩ := h1
  rcases h2 with h | h | h
  ·exact ht.1 h
  ·exact ht.2.1 h
  ·exact ht.2.2 h
 have fo : ∀ k, foot ag mb n vs c k → k < w.heap.size → w'.heap[k]? = w.heap[k]? := fun k hk hlt => hu.block k hlt (fun e => (hG k e hlt).1 hk)
 refine ⟨A.st.same (fo ag (.inl rfl) (lt_of_block A.st.hd)) (fo mb (.inr (.inl rfl)) A.st.map.lt), A.tab.keep (hu.block 4 A.tab.lt (fun e => (hG 4 e A.tab.lt).2.1 rfl)), fun h h1 h2 => ?_, A.sep, A.pa, A.pm, A.pc, A.p4⟩
 have S := A.stk h h1 h2
 refine ⟨(key _ _ _ S.hd (by decide)).trans S.hd, own_same S.row (fun g hg' => ?_), fun l hl => ?_, S.sep⟩
 ·obtain ⟨cur, k1, _⟩ := own_block S.row
  have e : lb h = g := by have : some (lb h) = some g := hg'; exact Option.some.inj this
  subst e
  exact key _ _ _ k1 (by decide)
 ·have Lv := S.lv l hl
  obtain ⟨⟨x, t, k1, ht⟩, y, u, k2, hu2⟩ := Lv.headsB
  obtain ⟨z, k3⟩ := Lv.cbKind
  exact Lv.keep (key _ _ _ k1 ht) (key _ _ _ k2 hu2) (fo _ (.inr (.inr ⟨h, h1, h2, l, hl, rfl⟩)) (lt_of_block k3))
structure Brd (B0 : Nat) (w : World) (bd ag mb n : Nat) (sd lb lcap : Nat → Nat) (vs : Nat → Nat → Lv) (c : Cfg) (K : List Nat) (F : Nat → List Int) (cs : Nat → Nat → List Int) (kv : Value) (fv : Nat → Value) : Prop where
 a : Ag (foot ag mb n vs c) w ag mb n sd lb lcap vs c cs
 r : BdRow B0 w bd ag c K F kv fv
 fo : ∀ b, bdF bd kv fv b → ¬ foot ag mb n vs c b
 flo : ∀ b, foot ag mb n vs c b → B0 ≤ b
 b4 : 4 < B0
theorem Brd.below (S : Brd B0 w bd ag mb n sd lb lcap vs c K F cs kv fv) (hb : Below w.heap.size w w') : Brd B0 w' bd ag mb n sd lb lcap vs c K F cs kv fv := ⟨S.a.below hb, S.r.below hb, S.fo, S.flo, S.b4⟩
theorem BdRow.blo (S : BdRow B0 w bd ag c K F kv fv) : ∀ b, bdF bd kv fv b → B0 ≤ b := by
 rintro b (h | h | ⟨g, g3, h⟩)
 ·rw [h]; exact S.lo
 ·exact (S.kr.lt b h).1
 ·exact ((S.fr g g3).lt b h).1
theorem BdRow.bkind (S : BdRow B0 w bd ag c K F kv fv) : ∀ b, bdF bd kv fv b → ∃ cur t, w.heap[b]? = some (Obj.cells cur t (0, 0)) ∧ (t = 37 ∨ t = 22 ∨ t = 2) := by
 rintro b (h | h | ⟨g, g3, h⟩)
 ·rw [h]; exact ⟨_, _, S.hd, .inl rfl⟩
 ·obtain ⟨cur, hc⟩ := S.r.kk h; exact ⟨cur, _, hc, .inr (.inl rfl)⟩
 ·obtain ⟨cur, hc⟩ := S.r.fk g3 h; exact ⟨cur, _, hc, .inr (.inr rfl)⟩
theorem Brd.line (S : Brd B0 w bd ag mb n sd lb lcap vs c K F cs kv fv) (A : Ag (foot ag mb n vs c) w' ag mb n sd lb lcap vs c cs') (hu : Upd (foot ag mb n vs c) w w') : Brd B0 w' bd ag mb n sd lb lcap vs c K F cs' kv fv :=
 ⟨A, S.r.upd hu (fun h => S.fo _ (.inl rfl) h) (fun b hb => S.fo b (.inr (.inl hb))) (fun h h3 b hb => S.fo b (.inr (.inr ⟨h, h3, hb⟩))), S.fo, S.flo, S.b4⟩
theorem Brd.rows (S : Brd B0 w bd ag mb n sd lb lcap vs c K F cs kv fv) (R : BdRow B0 w' bd ag c K' F' kv' fv') (hu : Upd (bdF bd kv fv) w w') (hn : ∀ b, bdF bd kv' fv' b → bdF bd kv fv b ∨ w.heap.size ≤ b) : Brd B0 w' bd ag mb n sd lb lcap vs c K' F' cs kv' fv' := by
 refine ⟨S.a.aside hu (fun k hk hlt => ⟨S.fo k hk, ?_, S.r.bkind k hk⟩), R, fun b hb hf => ?_, S.flo, S.b4⟩
 ·have := S.r.blo k hk; have := S.b4; omega
 ·rcases hn b hb with h | h
  ·exact S.fo b h hf
  ·rcases hf with e | e | ⟨g, g1, g2, l, hl, e⟩
   ·have := lt_of_block S.a.st.hd; omega
   ·have := S.a.st.map.lt; omega
   ·obtain ⟨cur, hc⟩ := ((S.a.stk g g1 g2).lv l hl).cbKind
    have := lt_of_block hc; omega
theorem Brd.lowU {w0 : World} (S : Brd w0.heap.size w bd ag mb n sd lb lcap vs c K F cs kv fv) (hb : Below w0.heap.size w0 w) (hu : Upd (foot ag mb n vs c) w w') : Below w0.heap.size w0 w' := below_upd hb hu (fun i _ hi => S.flo i hi)
end Go.Proofs.YtbhppbeepmllaaaGreatDoor

namespace Go.Proofs.YtbhppbeepmllaaaGreatDoor
open Go.RowKit

theorem app_list (a b : ByteArray) : (a ++ b).data.toList = a.data.toList ++ b.data.toList := by simp
theorem ln_cat3 (v : List UInt8) (V R1 R2 R3 : ByteArray) (a b d : Int) (hV : V.data.toList = v ++ [32]) (h1 : R1 = sOf (Lib.itoa a)) (h2 : R2 = sOf (Lib.itoa b)) (h3 : R3 = sOf (Lib.itoa d)) :
  (V ++ R1 ++ ⟨#[32]⟩ ++ R2 ++ ⟨#[32]⟩ ++ R3).data.toList = lnB v [a, b, d] := by
 subst h1; subst h2; subst h3
 simp only [app_list, hV, sOf_list, lnB, List.flatMap_cons, List.flatMap_nil]
 simp
theorem ln_cat2 (v : List UInt8) (V R1 R2 : ByteArray) (a b : Int) (hV : V.data.toList = v ++ [32]) (h1 : R1 = sOf (Lib.itoa a)) (h2 : R2 = sOf (Lib.itoa b)) :
  (V ++ R1 ++ ⟨#[32]⟩ ++ R2).data.toList = lnB v [a, b] := by
 subst h1; subst h2
 simp only [app_list, hV, sOf_list, lnB, List.flatMap_cons, List.flatMap_nil]
 simp
theorem text_size (n : Int) (h0 : -9223372036854775808 ≤ n) (h1 : n ≤ 9223372036854775807) : (sOf (Lib.itoa n)).size ≤ 20 := by
 rw [sOf_size]; exact itoa_len n h0 h1
variable {B0 : Nat} {w w' w1 : World} {bd ag mb n : Nat} {sd lb lcap : Nat → Nat} {vs : Nat → Nat → Lv} {c : Cfg} {cs cs' : Nat → Nat → List Int} {K K' : List Nat} {F F' L : Nat → List Int} {kv kv' : Value} {fv fv' : Nat → Value}
theorem BdRow.put (S : BdRow B0 w bd ag c K F kv fv) {h i g cap : Nat} (h3 : h < 3) (hi : i < K.length) (hv : fv h = .slice (some ⟨g, 0, none⟩) K.length cap) (x : Int) :
  BdRow B0 (w.setCell ⟨g, i, none⟩ (.int .i64 x)) bd ag c K (fun k => if k = h then (F h).set i x else F k) kv fv ∧ Upd (bdF bd kv fv) w (w.setCell ⟨g, i, none⟩ (.int .i64 x)) := by
 have hg : (fv h).ownBlock = some g := by rw [hv]; rfl
 obtain ⟨cur, hc⟩ := S.r.fk h3 hg
 have hr := S.fr h h3
 refine ⟨⟨?_, ?_, fun k k3 => ?_, fun k k3 => ?_, S.ff, S.lo⟩, ⟨rfl, rfl, rfl, by simp, fun k hk hn => heap_setCell_other _ _ _ _ (fun e => hn (.inr (.inr ⟨h, h3, by rw [hg, e]⟩)))⟩⟩
 ·exact (heap_setCell_other _ _ _ _ (fun e => kind_ne S.hd hc (by decide) e)).trans S.hd
 ·exact own_at S.kr _ (own_ne_kind S.kr hc (by decide))
 ·by_cases e : k = h
  ·subst e
   simp only [if_true]
   rw [hv] at hr ⊢
   have := hr.stored i (.int .i64 x)
   have e2 : i64s ((F k).set i x) = (i64s (F k)).set i (.int .i64 x) := by simp [i64s, List.map_set]
   rw [e2]
   exact this.1
  ·simp only [if_neg e]
   exact own_at (S.fr k k3) _ (S.ff h k h3 k3 (fun x => e x.symm) g hg)
 ·by_cases e : k = h
  ·subst e; simp [S.fl k k3]
  ·simp only [if_neg e]; exact S.fl k k3
end Go.Proofs.YtbhppbeepmllaaaGreatDoor

namespace Go.Proofs.YtbhppbeepmllaaaGreatDoor
open Go.RowKit

variable {B0 : Nat} {w w' w1 : World} {bd ag mb n : Nat} {sd lb lcap : Nat → Nat} {vs : Nat → Nat → Lv} {c : Cfg} {cs cs' : Nat → Nat → List Int} {K K' : List Nat} {F F' L : Nat → List Int} {kv kv' : Value} {fv fv' : Nat → Value}
def handN (a : Int) : Nat := ((a % 65536) % 3).toNat
theorem handN_lt (a : Int) : handN a < 3 := by unfold handN; omega
theorem handN_int (a : Int) : ((handN a : Nat) : Int) = (a % 65536) % 3 := by unfold handN; omega
theorem BdRow.congr (S : BdRow B0 w bd ag c K F kv fv) (h : ∀ g, g < 3 → F g = F' g) : BdRow B0 w bd ag c K F' kv fv :=
 ⟨S.hd, S.kr, fun g g3 => by rw [← h g g3]; exact S.fr g g3, fun g g3 => by rw [← h g g3]; exact S.fl g g3, S.ff, S.lo⟩
theorem Brd.congr (S : Brd B0 w bd ag mb n sd lb lcap vs c K F cs kv fv) (h : ∀ g, g < 3 → F g = F' g) : Brd B0 w bd ag mb n sd lb lcap vs c K F' cs kv fv := ⟨S.a, S.r.congr h, S.fo, S.flo, S.b4⟩
theorem not_bdF (S : BdRow B0 w bd ag c K F kv fv) {b : Nat} {cur : Array Value} {t : TypeId} (hx : w.heap[b]? = some (Obj.cells cur t (0, 0))) (h1 : t ≠ 37) (h2 : t ≠ 22) (h3 : t ≠ 2) : ¬ bdF bd kv fv b := by
 intro hb
 obtain ⟨cur2, t2, h4, h5⟩ := S.bkind b hb
 rw [hx] at h4
 simp at h4
 obtain ⟨_, rfl⟩ := h4
 rcases h5 with h | h | h
 ·exact h1 h
 ·exact h2 h
 ·exact h3 h
theorem Brd.not_foot (S : Brd B0 w bd ag mb n sd lb lcap vs c K F cs kv fv) {b : Nat} {cur : Array Value} {t : TypeId} (hx : w.heap[b]? = some (Obj.cells cur t (0, 0))) (h1 : t ≠ 217) (h3 : t ≠ 2) : ¬ foot ag mb n vs c b := by
 rintro (h | h | ⟨g, g1, g2, l, hl, rfl⟩)
 ·exact kind_ne hx S.a.st.hd h1 h
 ·subst h
  obtain ⟨D, ⟨es, clock, k1, k2⟩, hD⟩ := S.a.st.map.ex
  rw [hx] at k1
  cases k1
 ·obtain ⟨cur2, hc⟩ := ((S.a.stk g g1 g2).lv l hl).cbKind
  exact kind_ne hx hc h3 rfl
theorem Brd.placed (S : Brd B0 w bd ag mb n sd lb lcap vs c K F cs kv fv) {key i : Nat} (hnd : K.Nodup) (hP : PlaceOut B0 w bd ag c K F kv fv key i w') :
  ∃ kv' fv', Brd B0 w' bd ag mb n sd lb lcap vs c (plK K key) (plF K key F) cs kv' fv' ∧ (plK K key)[i]? = some key ∧ i = (plK K key).idxOf key ∧ Upd (fun k => B0 ≤ k) w w' := by
 obtain ⟨K', F', kv', fv', R', hi, hpl, hu, hn⟩ := hP
 have B := S.rows R' hu hn
 have hu2 : Upd (fun k => B0 ≤ k) w w' := hu.mono (fun k hk => S.r.blo k hk)
 rcases hpl with ⟨hm, e1, e2⟩ | ⟨hm, e1, e2⟩
 ·have e3 : plK K key = K := by unfold plK; rw [if_pos hm]
  have e4 : plF K key F = F := by unfold plF; funext h; rw [if_pos hm]
  subst e1; subst e2
  rw [e3, e4]
  exact ⟨kv', fv', B, hi, idx_of hnd hi, hu2⟩
 ·have e3 : plK K key = K ++ [key] := by unfold plK; rw [if_neg hm]
  have nd := plK_nd hnd key
  rw [e3] at nd ⊢
  subst e1
  exact ⟨kv', fv', B.congr (fun g g3 => by rw [e2 g g3]; unfold plF; rw [if_neg hm]), hi, idx_of nd hi, hu2⟩
theorem does_add (S : Brd B0 w bd ag mb 3 sd lb lcap vs c K F cs kv fv) (R : c.Ok) (M : Int) (N : Nat) (A : AbOk c M N K F cs) (hM : 1048576 ≤ M) (hM2 : M ≤ 562949953421312) (hN : N ≤ 3000) (kind H O D : Int) (key : Nat) (hk3 : kind ≠ 3) (hk4 : kind ≠ 4) (hkey : key < 18446744073709551616) (hD0 : -9223372036854775808 ≤ D) (hD1 : D ≤ 9223372036854775807) :
  Calls Tryz.prog 38 #[.pointer (some ⟨bd, 0, none⟩), .agg #[.int .i64 kind, .int .i64 H, .int .i64 O, .int .u64 (key : Int), .int .i64 D]] w fun e w' => e = .returned (.bool true) ∧ (∃ kv' fv', Brd B0 w' bd ag mb 3 sd lb lcap vs c (plK K (key % c.keys 0)) (addF K F (handN H) (key % c.keys 0) (smallI c.m D)) (addC c cs (handN H) (key % c.keys 0) (smallI c.m D)) kv' fv') ∧ Upd (fun k => B0 ≤ k) w w' := by
 have kb : Below w.heap.size w (w.alloc (.cells #[.int .i64 kind, .int .i64 H, .int .i64 O, .int .u64 (key : Int), .int .i64 D] 84)) := (Below.refl _ _).alloc (Nat.le_refl _) _
 have x0 : (w.alloc (.cells #[.int .i64 kind, .int .i64 H, .int .i64 O, .int .u64 (key : Int), .int .i64 D] 84)).heap[w.heap.size]? = some (Obj.cells #[.int .i64 kind, .int .i64 H, .int .i64 O, .int .u64 (key : Int), .int .i64 D] 84 (0, 0)) := heap_alloc_at _ rfl
 have S1 := S.below kb
 obtain ⟨W, hW⟩ : ∃ W, w.alloc (.cells #[.int .i64 kind, .int .i64 H, .int .i64 O, .int .u64 (key : Int), .int .i64 D] 84) = W := ⟨_, rfl⟩
 rw [hW] at kb x0 S1
 have lx := lt_of_block x0
 have q0 := cell_of_heap x0 0 _ rfl
 have q1 := cell_of_heap x0 1 _ rfl
 have q2 := cell_of_heap x0 2 _ rfl
 have q3 := cell_of_heap x0 3 _ rfl
 have q4 := cell_of_heap x0 4 _ rfl
 have d3 : (kind == (3 : Int)) = false := by simpa using hk3
 have d4 : (kind == (4 : Int)) = false := by simpa using hk4
 have HH := Lib.hid fun (a : Int) (w : World) => ghandle_any a w
 have HK := Lib.hid fun (X : World) (S : Brd B0 X bd ag mb 3 sd lb lcap vs c K F cs kv fv) => gkey_any S.r R key hkey
 have hkl := R.keys_le' 0
 have hkp : 1 ≤ c.keys 0 := Nat.one_le_two_pow
 have hkm : key % c.keys 0 < c.keys 0 := Nat.mod_lt _ (by omega)
 obtain ⟨ky, hky⟩ : ∃ ky, key % c.keys 0 = ky := ⟨_, rfl⟩
 rw [hky] at HK hkm ⊢
 have hh3 := handN_lt H
 have ehH := handN_int H
 have ehO := handN_int O
 obtain ⟨h, hh⟩ : ∃ h, handN H = h := ⟨_, rfl⟩
 rw [hh] at hh3 ehH ⊢
 have HS := Lib.hid (And.intro S1 (And.intro kb x0))
 have EH := Lib.hid ehH
 have EO := Lib.hid ehO
 clear hky hh S S1 x0 ehH ehO
 go_enter Tryz.func38, Tryz.ntmps38
 go_wp2_with fail
 refine (HH.out H _).mono ?_
 rintro e w1 ⟨rfl, rfl⟩
 rw [← EH.out]
 go_wp2_with fail
 refine (HH.out O _).mono ?_
 rintro e w1 ⟨rfl, rfl⟩
 go_wp2_with fail
 refine (HK.out _ HS.out.1).mono ?_
 rintro e w2 ⟨rfl, hb2⟩
 have S2 := HS.out.1.below hb2
 have kb2 := kb.trans (hb2.mono kb.size)
 have x2 := (hb2.block _ lx).trans HS.out.2.2
 have HP := Lib.hid (gplace_any S2.r ky (by omega) (by have := A.few; omega))
 have HS2 := Lib.hid (And.intro S2 (And.intro kb2 x2))
 clear S2 kb2 x2 hb2 q0 q1 q2 q3 q4
 go_wp2_with fail
 refine HP.out.mono ?_
 rintro e w3 ⟨i, rfl, hPO⟩
 obtain ⟨S2, kb2, x2⟩ := HS2.out
 obtain ⟨kv3, fv3, S3, hat, hidx, hu3⟩ := S2.placed A.nd hPO
 have kU := (Upd.of_below kb2 : Upd (fun k => B0 ≤ k) w w2).trans hu3
 have hub : Upd (bdF bd (kv) fv) w2 w3 := by
  obtain ⟨_, _, _, _, _, _, _, h, _⟩ := hPO
  exact h
 have x3 := (hub.block _ (lt_of_block x2) (not_bdF S2.r x2 (by decide) (by decide) (by decide))).trans x2
 have hM0 : smallI c.m D = smallI c.m D := rfl
 have hsb := small_bd c.m D
 have HSM := Lib.hid fun w => gsmall_any c R D hD0 hD1 w
 obtain ⟨d, hd⟩ : ∃ d, smallI c.m D = d := ⟨_, rfl⟩
 rw [hd] at HSM hsb
 have HD := Lib.hid hd
 have HI := Lib.hid (And.intro hat hidx)
 have HB := Lib.hid (And.intro S3 (And.intro kU x3))
 have z1 := fun k : After w3.heap.size w3 => k.cell (b := bd) (o := 1) (lt_of_block S3.r.hd) (cell_of_heap S3.r.hd 1 _ rfl)
 have z2 := fun k : After w3.heap.size w3 => k.cell (b := bd) (o := 2) (lt_of_block S3.r.hd) (cell_of_heap S3.r.hd 2 _ rfl)
 have z3 := fun k : After w3.heap.size w3 => k.cell (b := bd) (o := 3) (lt_of_block S3.r.hd) (cell_of_heap S3.r.hd 3 _ rfl)
 have z4 := fun k : After w3.heap.size w3 => k.cell (b := bd) (o := 4) (lt_of_block S3.r.hd) (cell_of_heap S3.r.hd 4 _ rfl)
 have z5 := fun k : After w3.heap.size w3 => k.cell (b := bd) (o := 5) (lt_of_block S3.r.hd) (cell_of_heap S3.r.hd 5 _ rfl)
 have y4 := fun k : After w3.heap.size w3 => k.cell (b := w.heap.size) (o := 4) (lt_of_block x3) (cell_of_heap x3 4 _ rfl)
 clear S2 kb2 x2 hat hidx hu3 kU x3 hub hPO hd hM0 S3 HK HP
 go_wp2_with fail
 refine wp_region_after w3.heap.size (by kernel_rfl) (by kernel_rfl) ?_
 repeat (go_big_quiet_step ((go_at_call 37; exact after_of (Nat.le_refl _) _ (HSM.out _))))
 refine wpQuiet_nil ?_
 intro k
 have kB := k.h
 obtain ⟨W5, hW5⟩ : ∃ W5, k.w = W5 := ⟨_, rfl⟩
 rw [hW5] at kB
 rw [hW5]
 clear hW5 k z1 z2 z3 z4 z5 y4 HSM
 obtain ⟨S3, kU3, x3⟩ := HB.out
 have S5 := S3.below kB
 have kU5 := kU3.trans (Upd.of_below kB)
 have ya := cell_of_heap S5.r.hd 0 _ rfl
 have HT1 := Lib.hid fun w => gtext_any ((h : Int) + 1) (by omega) (by omega) w
 have HT2 := Lib.hid fun w => gtext_any (ky : Int) (by omega) (by omega) w
 have HT3 := Lib.hid fun w => gtext_any d (by omega) (by omega) w
 have s1 := text_size ((h : Int) + 1) (by omega) (by omega)
 have s2 := text_size (ky : Int) (by omega) (by omega)
 have s3 := text_size d (by omega) (by omega)
 obtain ⟨R1, hR1⟩ : ∃ R1, sOf (Lib.itoa ((h : Int) + 1)) = R1 := ⟨_, rfl⟩
 obtain ⟨R2, hR2⟩ : ∃ R2, sOf (Lib.itoa (ky : Int)) = R2 := ⟨_, rfl⟩
 obtain ⟨R3, hR3⟩ : ∃ R3, sOf (Lib.itoa d) = R3 := ⟨_, rfl⟩
 rw [hR1] at HT1 s1
 rw [hR2] at HT2 s2
 rw [hR3] at HT3 s3
 have hcat := ln_cat3 [97, 100, 100] ⟨#[97, 100, 100, 32]⟩ R1 R2 R3 ((h : Int) + 1) ky d rfl hR1.symm hR2.symm hR3.symm
 have HC := Lib.hid hcat
 have HB5 := Lib.hid (And.intro S5 kU5)
 clear S3 kU3 x3 kB hR1 hR2 hR3 hcat kU5
 go_wp2_with fail
 refine wp_region_mixA W5.heap.size [0, 1, 2, 3, 4, 5, 6, 7, 8, 9, 10, 11, 12, 13, 14, 15, 16] [17, 18, 19, 20, 21, 22] (by kernel_rfl) (by kernel_rfl) rfl ?_
 simp only [opsAt, List.map_cons, List.map_nil, List.getElem?_toArray, List.getElem?_cons_zero, List.getElem?_cons_succ, Option.getD_some]
 have za := fun k : After W5.heap.size W5 => k.cell (lt_of_block S5.r.hd) ya
 repeat (go_big_quiet_step (((go_at_call 14; first | exact after_of (Nat.le_refl _) _ (HT1.out _) | exact after_of (Nat.le_refl _) _ (HT2.out _) | exact after_of (Nat.le_refl _) _ (HT3.out _)))))
 refine wpQuiet_nil ?_
 intro kk
 unfold calmQ
 have kb := kk.h
 clear za
 obtain ⟨W6, hw1⟩ : ∃ W6, kk.w = W6 := ⟨_, rfl⟩
 rw [hw1] at kb
 rw [hw1]
 clear hw1
 have S6 := HB5.out.1.below kb
 have kU6 := HB5.out.2.trans (Upd.of_below kb)
 have HL := Lib.hid (ln_add S6.a R (by decide) (h + 1) ky d M 1048576 (by omega) (by omega) hkm (by omega) (by decide) (by omega) (by omega) hsb.2.2 (fun l hl => A.cb h hh3 l hl) _ HC.out)
 have HS6 := Lib.hid (And.intro S6 kU6)
 clear S6 kU6 kb ya
 go_wp2_with fail
 refine HL.out.mono ?_
 rintro e W7 ⟨rfl, A7, u7⟩
 have S7 := HS6.out.1.line A7 u7
 have kU7 := HS6.out.2.trans (u7.mono (fun k hk => HS6.out.1.flo k hk))
 obtain ⟨hat, hidx⟩ := HI.out
 have hil := (List.getElem?_eq_some_iff.1 hat).1
 obtain ⟨g, cap, hfv, hcv⟩ := S7.r.val hh3 hil
 have yb := S7.r.cellF hh3
 rw [hfv] at yb
 have lg : g < W7.heap.size := ((S7.r.fr h hh3).lt g (by rw [hfv]; rfl)).2
 have hxb := (A.place (by omega) hkm).fb h hh3
 have hxv := hxb.getD (by omega) i
 have HX := Lib.hid (And.intro S7 (And.intro kU7 (And.intro hfv hil)))
 have HE := Lib.hid (show addF K F h ky d = fun g => if g = h then (plF K ky F h).set i ((plF K ky F h).getD i 0 + d) else plF K ky F g by unfold addF; rw [← hidx])
 obtain ⟨x, hx⟩ : ∃ x, (plF K ky F h).getD i 0 = x := ⟨_, rfl⟩
 obtain ⟨m, hm⟩ : ∃ m, (plK K ky).length = m := ⟨_, rfl⟩
 rw [hx] at hcv hxv HE
 rw [hm] at yb hil
 have HXX := Lib.hid (And.intro hx hm)
 have l7 := lt_of_block S7.r.hd
 clear hidx hat hfv hx hm hxb HL
 go_wp2_with fail
 refine wp_region_mixA W7.heap.size [0, 1, 2, 3, 4, 5, 6, 7, 8, 9, 10, 11, 12, 13, 14, 15, 16, 17] [18, 19] (by kernel_rfl) (by kernel_rfl) rfl ?_
 simp only [opsAt, List.map_cons, List.map_nil, List.getElem?_toArray, List.getElem?_cons_zero, List.getElem?_cons_succ, Option.getD_some]
 have za := fun k : After W7.heap.size W7 => k.cell (l7) yb
 have zb := fun k : After W7.heap.size W7 => k.cell lg hcv
 repeat (go_big_quiet_step (fail))
 refine wpQuiet_nil ?_
 intro kk
 unfold calmQ
 have kb := kk.h
 clear za zb
 obtain ⟨W8, hw1⟩ : ∃ W8, kk.w = W8 := ⟨_, rfl⟩
 rw [hw1] at kb
 rw [hw1]
 clear hw1
 obtain ⟨S7, kU7, hfv, hil0⟩ := HX.out
 have S8 := S7.below kb
 have kU8 := kU7.trans (Upd.of_below kb)
 obtain ⟨P8, u8⟩ := S8.r.put hh3 hil0 hfv (x + d)
 have S9 := S8.rows P8 u8 (fun b hb => .inl hb)
 have kU9 := kU8.trans (u8.mono (fun k hk => S8.r.blo k hk))
 have fz : W8.frozen? ⟨g, i, none⟩ = false := by
  obtain ⟨cur, hc⟩ := S8.r.r.fk hh3 (show (fv3 h).ownBlock = some g by rw [hfv]; rfl)
  simp [World.frozen?, hc]
 have yv := (kb.cell (p := ⟨g, i, none⟩) lg).trans hcv
 have l8 : g < W8.heap.size := Nat.lt_of_lt_of_le lg kb.size
 have HF := Lib.hid (show ∃ kv' fv', Brd B0 (W8.setCell ⟨g, i, none⟩ (.int .i64 (x + d))) bd ag mb 3 sd lb lcap vs c (plK K ky) (addF K F h ky d) (addC c cs h ky d) kv' fv' from ⟨kv3, fv3, by
  rw [HE.out]
  exact S9⟩)
 have HU9 := Lib.hid kU9
 clear S7 kU7 hfv S8 kU8 P8 u8 S9 kU9 hcv yb hil0
 go_wp2_with fail
 go_ret
 refine ⟨by first | rfl | simp [sOf_toList], ?_, HU9.out⟩
 rw [HD.out]
 exact HF.out
end Go.Proofs.YtbhppbeepmllaaaGreatDoor
