import Derived.Test.YtbhppbeepmllaaaGreatDoorMad50fc4b
import Derived.Maps.AppendAt
import Derived.Deep.Upon
import Derived.Defers
import Derived.Handy
set_option linter.unusedVariables false
set_option linter.unusedSimpArgs false
set_option maxRecDepth 100000
set_option maxHeartbeats 2000000
namespace Go.Proofs.YtbhppbeepmllaaaGreatDoor
open Go.RowKit

theorem own_ne_kind {w : World} {B : Nat} {e t : TypeId} {size : Nat} {v : Value} {n : Nat} {xs : List Value} {b : Nat} {cs : Array Value} {fr : Nat × Nat} (h : w.ownsRow B e size v n xs) (hb : w.heap[b]? = some (.cells cs t fr)) (hne : t ≠ e) : v.ownBlock ≠ some b := by
 intro hc
 rcases h.2 with ⟨rfl, _⟩ | ⟨g, cap, cur, rfl, _, h2, _⟩
 ·simp [Value.ownBlock] at hc
 ·simp [Value.ownBlock] at hc
  subst hc
  have := h2.symm.trans hb
  simp at this
  exact hne this.2.1.symm
theorem Tryz.info55 : (Tryz.prog.info? 55).map (fun i => (i.zero, i.size, i.bytes)) = some (some (.agg #[.int .i64 0, .int .u64 0]), 2, 16) := by kernel_rfl

theorem own_cap' {w : World} {B : Nat} {e : TypeId} {size : Nat} {v : Value} {n : Nat} {xs : List Value} (h : w.ownsRow B e size v n xs) : ∀ b c, v = .slice b n c → n ≤ c := by
 intro b c hv
 rcases h.2 with ⟨rfl, rfl⟩ | ⟨g, cap, cur, rfl, _, _, h4, _⟩
 ·omega
 ·simp at hv
  obtain ⟨_, rfl⟩ := hv
  exact h4
theorem pcs_one (l : List Pc) : ∀ u ∈ pcs l, u.oneCell' = true := by
 intro u hu
 simp [pcs] at hu
 obtain ⟨a, b, _, rfl | rfl⟩ := hu <;> rfl

section
variable {P : Program} (w : World)
theorem wpList_append_nil {ops : Array Oper} {rest : List Oper} {o : Oper} {a : Act} {Q : Exit → Act → World → Prop} (hgd : o.guard = none) (s x : Operand) (t : TypeId)
  (ho : o.op = .call { callee := .builtin .append, args := #[s, x], argTypes := #[t, t] })
  (e : TypeId) (i : TypeInfo) (ht : P.underlying t = some (.slice e)) (hi : P.info? e = some i) (b : Option Addr) (n c : Nat) (hs : a.eval s = .slice b n c) (hle : n ≤ c) (hx : a.eval x = .slice none 0 0)
  (h : wpList P ops Q rest (a.put o.dst (.slice b n c)) w) :
  wpList P ops Q (o :: rest) a w := by
 refine wpList_plain hgd fun K hK => ?_
 have hr := run_append_nothing (P := P) w t t o.type e i ht hi b n c hle (.slice none 0 0) (Src.ofNil w ht 0)
 unfold Oper.wp execOp
 simp only [ho, resolve, invoke, builtin, Sem.run_bind, Sem.run_pure, Result.andThen_ok, List.map_toArray, List.map_cons, List.map_nil, hs, hx, hr]
 exact hK _ _ h
end

theorem cov1_nil (rb ob B : Nat) (vo : Value) (os : List Pc) (u : FrameMode) (w : World) (hrb : B ≤ rb) (hob : B ≤ ob) (h1 : w.heap[rb]? = some (.cells #[.slice none 0 0] 62 (0, 0))) (h2 : w.heap[ob]? = some (.cells #[vo] 62 (0, 0)))
  (o2 : w.ownsRow B 55 2 vo os.length (pcs os)) :
  CallsD Tryz.prog 224 #[.pointer (some ⟨rb, 0, none⟩), .pointer (some ⟨ob, 0, none⟩)] u w fun e u' w' => u' = u ∧ (e = .returned (.tuple #[]) ∧ (∃ v', w'.heap[ob]? = some (.cells #[v'] 62 (0, 0)) ∧ w'.ownsRow B 55 2 v' os.length (pcs os)) ∧ Below B w w') := by
 have q0 : w.cell? ⟨rb, 0, none⟩ = some (.slice none 0 0) := by simp [World.cell?, h1]
 have q1 : w.cell? ⟨ob, 0, none⟩ = some vo := by simp [World.cell?, h2]
 have f0 : w.frozen? ⟨ob, 0, none⟩ = false := by simp [World.frozen?, h2]
 have HR := Lib.hid (rev_nil w)
 have hcap := own_cap' o2
 obtain ⟨b, c, rfl⟩ := own_form o2
 obtain ⟨i0, hi, hz0, hz1, hz2⟩ := info_parts Tryz.info55
 have hcc := hcap b c rfl
 clear hcap
 go_enter_d Tryz.func224, Tryz.ntmps224
 go_wp2_with fail
 refine HR.out.mono ?_
 rintro e w1 ⟨rfl, rfl⟩
 go_wp2_with (at_builtin; refine wpList_append_nil _ rfl (.tmp 4) (.tmp 5) 62 rfl 55 i0 Tryz.underlying62 hi b os.length c rfl hcc rfl ?_)
 go_end0
 have hb2 : ∀ z, ((w.setCell ⟨ob, 0, none⟩ z).ownsRow B 55 2 (.slice b os.length c) os.length (pcs os)) := fun z => o2.kept (grown_set w ob 0 z) (.inr (own_ne_kind o2 h2 (by decide)))
 exact ⟨rfl, ⟨_, by simpa using heap_setCell_same _ _ 0 _ _ _ h2, hb2 _⟩, (Below.refl _ _).setCell hob _⟩

theorem cov1_some (rb ob B g c : Nat) (vo : Value) (os rs : List Pc) (u : FrameMode) (w : World) (hrb : B ≤ rb) (hob : B ≤ ob) (hne : rb ≠ ob) (hr : 0 < rs.length) (hr2 : rs.length ≤ 1000) (ho2 : os.length ≤ 1000)
  (h1 : w.heap[rb]? = some (.cells #[.slice (some ⟨g, 0, none⟩) rs.length c] 62 (0, 0))) (h2 : w.heap[ob]? = some (.cells #[vo] 62 (0, 0))) (ap : vo.ownBlock ≠ some g)
  (o1 : w.ownsRow B 55 2 (.slice (some ⟨g, 0, none⟩) rs.length c) rs.length (pcs rs)) (o2 : w.ownsRow B 55 2 vo os.length (pcs os)) :
  CallsD Tryz.prog 224 #[.pointer (some ⟨rb, 0, none⟩), .pointer (some ⟨ob, 0, none⟩)] u w fun e u' w' => u' = u ∧ (e = .returned (.tuple #[]) ∧ (∃ v', w'.heap[ob]? = some (.cells #[v'] 62 (0, 0)) ∧ w'.ownsRow B 55 2 v' (os ++ rs.reverse).length (pcs (os ++ rs.reverse))) ∧ Below B w w') := by
 have q0 : w.cell? ⟨rb, 0, none⟩ = some (.slice (some ⟨g, 0, none⟩) rs.length c) := by simp [World.cell?, h1]
 have HR := Lib.hid (rev_any rs g c w hr (by omega) (own_base o1 (Nat.zero_le _)))
 have lg := (o1.lt g rfl)
 have n1 := own_ne_kind o1 h1 (by decide)
 have n2 := own_ne_kind o1 h2 (by decide)
 have n3 := own_ne_kind o2 h1 (by decide)
 have n4 := own_ne_kind o2 h2 (by decide)
 obtain ⟨i0, hi, hz0, hz1, hz2⟩ := info_parts Tryz.info55
 obtain ⟨n, hn⟩ : ∃ n, rs.length = n := ⟨_, rfl⟩
 obtain ⟨m, hm⟩ : ∃ m, os.length = m := ⟨_, rfl⟩
 have hnr : rs.reverse.length = n := by simp [hn]
 have hlen : (os ++ rs.reverse).length = m + n := by simp [hn, hm]
 rw [hlen]
 rw [hn] at q0 HR n1 n2 hr hr2 h1 o1
 rw [hm] at ho2 o2
 have HLP : (pcs rs.reverse).length = n * 2 := by rw [pcs_len, hnr]
 have HONE := Lib.hid (pcs_one rs.reverse)
 have HAP := Lib.hid (pcs_append os rs.reverse)
 have HLPH := Lib.hid HLP
 clear hlen hnr hn hm HLP
 rw [HAP.out]
 clear HAP
 go_enter_d Tryz.func224, Tryz.ntmps224
 go_wp2_with fail
 refine HR.out.mono ?_
 rintro e w1 ⟨rfl, ho, hg⟩
 have h1' := (hg.block _ (lt_of_block h1) (by intro e; exact n1 (by simp [Value.ownBlock, e]))).trans h1
 have h2' := (hg.block _ (lt_of_block h2) (by intro e; exact n2 (by simp [Value.ownBlock, e]))).trans h2
 have o2' := o2.kept hg (.inr (by intro e; exact ap e))
 have q0 : w1.cell? ⟨rb, 0, none⟩ = some (.slice (some ⟨g, 0, none⟩) n c) := by simp [World.cell?, h1']
 have q1 : w1.cell? ⟨ob, 0, none⟩ = some vo := by simp [World.cell?, h2']
 have l2 := lt_of_block h2'
 have kb : Below B w w1 := ⟨hg.os, hg.tape, hg.output, hg.size, fun k hk => hg.block k (by omega) (by intro e; cases e; omega)⟩
 have HCE := Lib.hid (ho.cells (g := g) rfl)
 go_wp2_with (at_builtin; go_loud (refine wpList_append_own_at _ rfl (.tmp 4) (.tmp 5) 62 rfl B 55 i0 (.agg #[.int .i64 0, .int .u64 0]) 2 16 Tryz.underlying62 hi hz0 hz1 hz2 rfl (by decide) vo m _ rfl o2' ⟨g, 0, none⟩ n c (pcs rs.reverse) rfl HLPH.out HCE.out HONE.out (by unfold maxLen; omega) (by omega) (by omega) ?_; intro v' w2 hown' hgrow hnil hat; have h2w := (hgrow.block ob l2 (own_ne_kind o2' h2' (by decide)).symm).trans h2'; have hf0 : w2.frozen? ⟨ob, 0, none⟩ = false := (by simp [World.frozen?, h2w]); have hg0 : w2.cell? ⟨ob, 0, none⟩ = some vo := (by simp [World.cell?, h2w]); obtain ⟨b', c', rfl⟩ := own_form hown'))
 go_end0
 have hb2 : ∀ z, ((w2.setCell ⟨ob, 0, none⟩ z).ownsRow B 55 2 (.slice b' (m + n) c') (m + n) (pcs os ++ pcs rs.reverse)) := fun z => hown'.kept (grown_set w2 ob 0 z) (.inr (own_ne_kind hown' h2w (by decide)))
 refine ⟨rfl, ⟨_, by simpa using heap_setCell_same _ _ 0 _ _ _ h2w, hb2 _⟩, (kb.grown hgrow (by have := kb.size; omega) (fun b e => (o2'.lt b e).1)).setCell hob _⟩
end Go.Proofs.YtbhppbeepmllaaaGreatDoor

namespace Go.Proofs.YtbhppbeepmllaaaGreatDoor
open Go.RowKit

def cov : Nat → Nat → Nat → Nat → List Pc
  | 0, _, _, _ => []
  | f + 1, L, lo, hi =>
    if lo = hi then [(L, lo)] else
    (if lo % 2 = 1 then [(L, lo)] else []) ++
      (if (if hi % 2 = 0 then hi - 1 else hi) < (if lo % 2 = 1 then lo + 1 else lo) then []
        else cov f (L + 1) ((if lo % 2 = 1 then lo + 1 else lo) / 2) ((if hi % 2 = 0 then hi - 1 else hi) / 2)) ++
      (if hi % 2 = 0 then [(L, hi)] else [])

structure CovSt (w wr : World) (vo vr : Value) (os rs : List Pc) : Prop where
  ob : wr.heap[w.heap.size]? = some (.cells #[vo] 62 (0, 0))
  rb : wr.heap[w.heap.size + 1]? = some (.cells #[vr] 62 (0, 0))
  oo : wr.ownsRow (w.heap.size + 2) 55 2 vo os.length (pcs os)
  ro : wr.ownsRow (w.heap.size + 2) 55 2 vr rs.length (pcs rs)
  ap : apartV vo vr
  nil : rs = [] → vr = .slice none 0 0
  bw : Below w.heap.size w wr

theorem cov_succ (f L lo hi : Nat) : cov (f + 1) L lo hi = if lo = hi then [(L, lo)] else
    (if lo % 2 = 1 then [(L, lo)] else []) ++
      (if (if hi % 2 = 0 then hi - 1 else hi) < (if lo % 2 = 1 then lo + 1 else lo) then []
        else cov f (L + 1) ((if lo % 2 = 1 then lo + 1 else lo) / 2) ((if hi % 2 = 0 then hi - 1 else hi) / 2)) ++
      (if hi % 2 = 0 then [(L, hi)] else []) := rfl
theorem CovSt.lit {w wr : World} {vo vr : Value} {os rs : List Pc} (S : CovSt w wr vo vr os rs) (o : Obj) : CovSt w (wr.alloc o) vo vr os rs :=
  ⟨heap_alloc_under _ S.ob, heap_alloc_under _ S.rb, S.oo.alloc _, S.ro.alloc _, S.ap, S.nil, S.bw.alloc S.bw.size _⟩
theorem CovSt.facts {w wr : World} {vo vr : Value} {os rs : List Pc} (S : CovSt w wr vo vr os rs) : wr.cell? ⟨w.heap.size, 0, none⟩ = some vo ∧ wr.cell? ⟨w.heap.size + 1, 0, none⟩ = some vr ∧ wr.frozen? ⟨w.heap.size, 0, none⟩ = false ∧ wr.frozen? ⟨w.heap.size + 1, 0, none⟩ = false ∧ w.heap.size < wr.heap.size ∧ w.heap.size + 1 < wr.heap.size := by
  have h1 := S.ob
  have h2 := S.rb
  exact ⟨by simp [World.cell?, h1], by simp [World.cell?, h2], by simp [World.frozen?, h1], by simp [World.frozen?, h2], lt_of_block h1, lt_of_block h2⟩
theorem CovSt.outs {w wr w1 : World} {vo vr v' : Value} {os rs : List Pc} {p : Pc} (S : CovSt w wr vo vr os rs) (h1 : w1.ownsRow (w.heap.size + 2) 55 2 v' (os.length + 1) (pcs os ++ pcs [p])) (hg : wr.grownBy w1 vo.ownBlock) (hat : v'.ownBlock = vo.ownBlock ∨ v'.ownBlock = some wr.heap.size) :
    CovSt w (w1.setCell ⟨w.heap.size, 0, none⟩ v') v' vr (os ++ [p]) rs := by
  have f := S.facts
  have b1 := (hg.block _ f.2.2.2.2.1 (own_ne_kind S.oo S.ob (by decide)).symm).trans S.ob
  have b2 := (hg.block _ f.2.2.2.2.2 (own_ne_kind S.oo S.rb (by decide)).symm).trans S.rb
  have hr := S.ro.kept hg S.ap.symm.ne
  refine ⟨by simpa using heap_setCell_same _ _ 0 _ _ _ b1, (heap_setCell_other _ _ _ _ (by simp)).trans b2, ?_, ownsRow_setCell_below hr (by simp) _, apart_own S.ro S.ap hat, S.nil, ?_⟩
  · rw [pcs_append, List.length_append]; exact ownsRow_setCell_below h1 (by simp) _
  · exact (S.bw.grown hg S.bw.size (fun b e => by have := (S.oo.lt b e).1; omega)).setCell (Nat.le_refl _) _
theorem CovSt.rights {w wr w1 : World} {vo vr v' : Value} {os rs : List Pc} {p : Pc} (S : CovSt w wr vo vr os rs) (h1 : w1.ownsRow (w.heap.size + 2) 55 2 v' (rs.length + 1) (pcs rs ++ pcs [p])) (hg : wr.grownBy w1 vr.ownBlock) (hat : v'.ownBlock = vr.ownBlock ∨ v'.ownBlock = some wr.heap.size) :
    CovSt w (w1.setCell ⟨w.heap.size + 1, 0, none⟩ v') vo v' os (rs ++ [p]) := by
  have f := S.facts
  have b1 := (hg.block _ f.2.2.2.2.1 (own_ne_kind S.ro S.ob (by decide)).symm).trans S.ob
  have b2 := (hg.block _ f.2.2.2.2.2 (own_ne_kind S.ro S.rb (by decide)).symm).trans S.rb
  have hr := S.oo.kept hg S.ap.ne
  refine ⟨(heap_setCell_other _ _ _ _ (by simp)).trans b1, by simpa using heap_setCell_same _ _ 0 _ _ _ b2, ownsRow_setCell_below hr (by simp) _, ?_, (apart_own S.oo S.ap.symm hat).symm, by simp, ?_⟩
  · rw [pcs_append, List.length_append]; exact ownsRow_setCell_below h1 (by simp) _
  · exact (S.bw.grown hg S.bw.size (fun b e => by have := (S.ro.lt b e).1; omega)).setCell (by simp) _

theorem CovSt.box {w wr w1 : World} {vo vr v : Value} {os rs : List Pc} {n : Nat} {xs : List Value} (S : CovSt w wr vo vr os rs) (hv : wr.ownsRow (w.heap.size + 2) 55 2 v n xs) (hg : wr.grownBy w1 v.ownBlock) :
    w1.cell? ⟨w.heap.size, 0, none⟩ = some vo ∧ w1.cell? ⟨w.heap.size + 1, 0, none⟩ = some vr ∧ w1.frozen? ⟨w.heap.size, 0, none⟩ = false ∧ w1.frozen? ⟨w.heap.size + 1, 0, none⟩ = false ∧ w.heap.size < w1.heap.size ∧ w.heap.size + 1 < w1.heap.size := by
  have f := S.facts
  have h1 := (hg.block _ f.2.2.2.2.1 (own_ne_kind hv S.ob (by decide)).symm).trans S.ob
  have h2 := (hg.block _ f.2.2.2.2.2 (own_ne_kind hv S.rb (by decide)).symm).trans S.rb
  exact ⟨by simp [World.cell?, h1], by simp [World.cell?, h2], by simp [World.frozen?, h1], by simp [World.frozen?, h2], lt_of_block h1, lt_of_block h2⟩
theorem lit2 (V : World) (a b : Nat) : ∀ j u, (pcs [(a, b)])[j]? = some u → (V.alloc (.cells #[.int .i64 a, .int .u64 b] 55)).cell? ((⟨V.heap.size, 0, none⟩ : Addr).add j) = some u := by
  intro j u hj
  have h := heap_alloc_at (w := V) (.cells #[.int .i64 a, .int .u64 b] 55) rfl
  match j, hj with
  | 0, hj => simp [pcs] at hj; subst hj; exact cell_of_heap h 0 _ (by simp)
  | 1, hj => simp [pcs] at hj; subst hj; exact cell_of_heap h 1 _ (by simp)
  | j + 2, hj => simp [pcs] at hj
theorem lit3 (V : World) (a b z : Nat) (hz : z = V.heap.size) : ∀ j u, (pcs [(a, b)])[j]? = some u → (V.alloc (.cells #[.int .i64 a, .int .u64 b] 55)).cell? ((⟨z, 0, none⟩ : Addr).add j) = some u := by
  subst hz; exact lit2 V a b
theorem and1 (a : Nat) (h : a < 18446744073709551616) : bits .and .u64 (a : Int) 1 = ((a % 2 : Nat) : Int) := by
  have := u64_and_nat a 1 h (by decide)
  rw [Nat.and_one_is_mod] at this
  exact this

theorem CovSt.again {w wr : World} {vo vr : Value} {os rs : List Pc} (S : CovSt w wr vo vr os rs) : CovSt w (wr.setCell ⟨w.heap.size, 0, none⟩ vo) vo vr os rs :=
  ⟨by simpa using heap_setCell_same _ _ 0 _ _ vo S.ob, (heap_setCell_other _ _ _ _ (by simp)).trans S.rb, ownsRow_setCell_below S.oo (by simp) _, ownsRow_setCell_below S.ro (by simp) _, S.ap, S.nil, S.bw.setCell (Nat.le_refl _) _⟩
theorem cov_end {w W : World} {vo vr : Value} {os rs : List Pc} (S : CovSt w W vo vr os rs) (h1 : os.length ≤ 1000) (h2 : rs.length ≤ 1000) (u : FrameMode) :
    CallsD Tryz.prog 224 #[.pointer (some ⟨w.heap.size + 1, 0, none⟩), .pointer (some ⟨w.heap.size, 0, none⟩)] u W fun e u' w' => u' = u ∧ (e = .returned (.tuple #[]) ∧ (∃ v', w'.heap[w.heap.size]? = some (.cells #[v'] 62 (0, 0)) ∧ w'.ownsRow w.heap.size 55 2 v' (os ++ rs.reverse).length (pcs (os ++ rs.reverse))) ∧ Below w.heap.size W w') := by
  match rs, S, h2 with
  | [], S, h2 =>
    have hn := S.nil rfl
    subst hn
    rw [List.reverse_nil, List.append_nil]
    exact cov1_nil (w.heap.size + 1) w.heap.size w.heap.size vo os u W (by omega) (Nat.le_refl _) S.rb S.ob (own_base S.oo (by omega))
  | p :: rs, S, h2 =>
    obtain ⟨g, c, hv⟩ := own_succ (k := rs.length) S.ro
    subst hv
    exact cov1_some (w.heap.size + 1) w.heap.size w.heap.size g c vo os (p :: rs) u W (by omega) (Nat.le_refl _) (by omega) (by simp) h2 h1 S.rb S.ob (fun e => S.ap g e rfl) (own_base S.ro (by omega)) (own_base S.oo (by omega))

theorem cover_any (b lo0 hi0 : Nat) (w : World) (hb1 : 1 ≤ b) (hb2 : b ≤ 59) (hlh : lo0 ≤ hi0) (hhi : hi0 < 2 ^ b) :
    Calls Tryz.prog 192 #[.int .i64 b, .int .u64 lo0, .int .u64 hi0] w fun e w' =>
      (∃ v, e = .returned (.tuple #[v, .bool true]) ∧ w'.ownsRow w.heap.size 55 2 v (cov 61 0 lo0 hi0).length (pcs (cov 61 0 lo0 hi0))) ∧ Below w.heap.size w w' := by
  have hk : 2 ^ b ≤ 2 ^ 59 := Nat.pow_le_pow_right (by omega) hb2
  have hh59 : hi0 < 576460752303423488 := by omega
  have hw : IntKind.u64.wrap (2 ^ b : Int) = 2 ^ b := by
    have : ((2 ^ b : Nat) : Int) ≤ ((2 ^ 59 : Nat) : Int) := by omega
    have h0 : (0 : Int) ≤ ((2 ^ b : Nat) : Int) := by omega
    simp at this h0
    rw [IntKind.wrap_u64]; omega
  have hih : (hi0 : Int) < 2 ^ b := by have : ((hi0 : Nat) : Int) < ((2 ^ b : Nat) : Int) := by omega
                                       simpa using this
  have hbt : ((b : Int)).toNat = b := by omega
  have d1 : decide ((b : Int) < 1) = false := by simp; omega
  have d2 : decide ((59 : Int) < b) = false := by simp; omega
  have d3 : decide ((hi0 : Int) < lo0) = false := by simp; omega
  have d4 : decide ((2 : Int) ^ b ≤ hi0) = false := by simp; omega
  obtain ⟨i0, hi', hz0, hz1, hz2⟩ := info_parts Tryz.info55
  have hmf : ∀ (fn : Fn) (first cap : Array Value) (w : World), (Instr.makeFunc fn first cap).run Tryz.prog w = .ok (.func fn first cap) w := fun _ _ _ _ => rfl
  go_enter_defers Tryz.func192, Tryz.ntmps192
  go_wp2_with fail
  go_loopw [1, 2, 9] (fun i j q wr => ∃ (L lo hi : Nat) (vo vr : Value) (os rs : List Pc), L ≤ 60 ∧ lo ≤ hi ∧ hi < 2 ^ (60 - L) ∧ i = .int .u64 lo ∧ j = .int .u64 hi ∧ q = .int .i64 L ∧ os.length ≤ L ∧ rs.length ≤ L ∧
    os ++ cov (61 - L) L lo hi ++ rs.reverse = cov 61 0 lo0 hi0 ∧ CovSt w wr vo vr os rs) (fun i j q _ => 61 - (intOf q).toNat)
  case atStart =>
    refine ⟨0, lo0, hi0, .slice none 0 0, .slice none 0 0, [], [], by omega, hlh, by omega, rfl, rfl, rfl, by simp, by simp, by simp, ?_⟩
    exact ⟨heap_alloc_under _ (heap_alloc_at _ rfl), heap_alloc_at _ (by simp), World.ownsRow_nil _ _ _ _, World.ownsRow_nil _ _ _ _, by intro b h; simp [Value.ownBlock] at h, fun _ => rfl, (((Below.refl _ _).alloc (Nat.le_refl _) _).alloc (by simp) _)⟩
  case round =>
    obtain ⟨L, lo, hi, vo, vr, os, rs, hL, hlh, hhi, rfl, rfl, rfl, hos, hrs, hcv, S⟩ := hrel
    have hF := S.facts
    have hk60 : 2 ^ (60 - L) ≤ 2 ^ 60 := Nat.pow_le_pow_right (by omega) (by omega)
    have al := and1 lo (by omega)
    have ah := and1 hi (by omega)
    have hrec := cov_succ (60 - L) L lo hi
    rw [show 60 - L + 1 = 61 - L by omega] at hrec
    have HREC := Lib.hid hrec; have HCV := Lib.hid hcv
    clear hrec hcv
    by_cases he : lo = hi
    · have HE := Lib.hid he
      have hed : decide ((lo : Int) = hi) = true := by simp; omega
      have hed2 : ((lo : Int) == hi) = true := by simp; omega
      clear he
      go_wp2_with (at_builtin; refine wpList_append_own_at _ rfl (.tmp 33) (.tmp 37) 62 rfl (w.heap.size + 2) 55 i0 (.agg #[.int .i64 0, .int .u64 0]) 2 16 Tryz.underlying62 hi' hz0 hz1 hz2 rfl (by decide) vo os.length _ rfl (S.lit (.cells #[.int .i64 (L : Nat), .int .u64 (lo : Nat)] 55)).oo ⟨_, 0, none⟩ 1 1 (pcs [(L, lo)]) rfl rfl (lit3 _ L lo _ (by simp)) (pcs_one _) (by unfold maxLen; omega) (by omega) (by have := S.facts; simp only [World.size_alloc]; omega) ?_; intro va wa howna hgrowa hnila hata; have hbxa := (S.lit (.cells #[.int .i64 (L : Nat), .int .u64 (lo : Nat)] 55)).box (S.lit _).oo hgrowa; obtain ⟨ba, ca, rfl⟩ := own_form howna; have Sa := (S.lit _).outs howna hgrowa hata; have hFa := Sa.facts)
      have Sz := Sa.again
      refine leaves_cons (f := 224) (args := #[.pointer (some ⟨w.heap.size + 1, 0, none⟩), .pointer (some ⟨w.heap.size, 0, none⟩)]) (by simp) (by simp [go_sem]) ?_
      refine (cov_end Sz (by first | omega | (simp; done) | (simp; omega)) (by first | omega | (simp; done) | (simp; omega)) .returning).mono ?_
      rintro e u' wz ⟨rfl, rfl, ⟨vz, hbz, hoz⟩, hwz⟩
      have hfin : os ++ [(L, lo)] ++ rs.reverse = cov 61 0 lo0 hi0 := by rw [← HCV.out, HREC.out, if_pos HE.out]
      rw [hfin] at hoz
      have tz := cell_of_heap hbz 0 vz (by simp)
      exact ⟨.tuple #[vz, .bool true], by simp [results, Tryz.results192, go_sem, tz], ⟨vz, rfl, hoz⟩, Sz.bw.trans hwz⟩
    · have HE := Lib.hid he
      have hed : decide ((lo : Int) = hi) = false := by simp; omega
      have hed2 : ((lo : Int) == hi) = false := by simp; omega
      have hlt : lo < hi := by omega
      have hL59 : L < 60 := by
        rcases Nat.lt_or_ge L 60 with h | h
        · exact h
        · have : 60 - L = 0 := by omega
          rw [this] at hhi
          omega
      have hhalf : 2 ^ (60 - L) = 2 * 2 ^ (60 - (L + 1)) := by
        rw [show 60 - L = 60 - (L + 1) + 1 by omega, Nat.pow_succ]; omega
      clear he
      by_cases hp : lo % 2 = 1
      · have hpl : ((lo % 2 : Nat) : Int) = 1 := by omega
        have HPL := Lib.hid hp
        rw [hpl] at al
        clear hpl
        have ul : IntKind.u64.wrap ((lo : Int) + 1) = (lo : Int) + 1 := by rw [IntKind.wrap_u64]; omega
        by_cases hq : hi % 2 = 0
        · have hqh : ((hi % 2 : Nat) : Int) = 0 := by omega
          have HPH := Lib.hid hq
          rw [hqh] at ah
          clear hqh
          have uh : IntKind.u64.wrap ((hi : Int) - 1) = (hi : Int) - 1 := by rw [IntKind.wrap_u64]; omega
          by_cases hz : (hi - 1) < (lo + 1)
          · have HZ := Lib.hid hz
            have hzd : decide ((hi : Int) - 1 < (lo : Int) + 1) = true := by simp; omega
            go_wp2_with (first | (at_builtin; refine wpList_append_own_at _ rfl (.tmp 43) (.tmp 47) 62 rfl (w.heap.size + 2) 55 i0 (.agg #[.int .i64 0, .int .u64 0]) 2 16 Tryz.underlying62 hi' hz0 hz1 hz2 rfl (by decide) vo os.length _ rfl (S.lit (.cells #[.int .i64 (L : Nat), .int .u64 (lo : Nat)] 55)).oo ⟨_, 0, none⟩ 1 1 (pcs [(L, lo)]) rfl rfl (lit3 _ L lo _ (by simp)) (pcs_one _) (by unfold maxLen; (try simp); omega) (by first | omega | (simp; done) | (simp; omega)) (by have := S.facts; simp only [World.size_alloc]; omega) ?_; intro va wa howna hgrowa hnila hata; have hbxa := (S.lit (.cells #[.int .i64 (L : Nat), .int .u64 (lo : Nat)] 55)).box (S.lit _).oo hgrowa; obtain ⟨ba, ca, rfl⟩ := own_form howna; have Sa := (S.lit _).outs howna hgrowa hata; have hFa := Sa.facts) | (at_builtin; refine wpList_append_own_at _ rfl (.tmp 54) (.tmp 58) 62 rfl (w.heap.size + 2) 55 i0 (.agg #[.int .i64 0, .int .u64 0]) 2 16 Tryz.underlying62 hi' hz0 hz1 hz2 rfl (by decide) vr rs.length _ rfl (Sa.lit (.cells #[.int .i64 (L : Nat), .int .u64 (hi : Nat)] 55)).ro ⟨_, 0, none⟩ 1 1 (pcs [(L, hi)]) rfl rfl (lit3 _ L hi _ (by simp)) (pcs_one _) (by unfold maxLen; (try simp); omega) (by first | omega | (simp; done) | (simp; omega)) (by have := Sa.facts; simp only [World.size_alloc]; omega) ?_; intro vb wb hownb hgrowb hnilb hatb; have hbxb := (Sa.lit (.cells #[.int .i64 (L : Nat), .int .u64 (hi : Nat)] 55)).box (Sa.lit _).ro hgrowb; obtain ⟨bb, cb, rfl⟩ := own_form hownb; have Sb := (Sa.lit _).rights hownb hgrowb hatb; have hFb := Sb.facts))
            have Sz := Sb.again
            refine leaves_cons (f := 224) (args := #[.pointer (some ⟨w.heap.size + 1, 0, none⟩), .pointer (some ⟨w.heap.size, 0, none⟩)]) (by simp) (by simp [go_sem]) ?_
            refine (cov_end Sz (by first | omega | (simp; done) | (simp; omega)) (by first | omega | (simp; done) | (simp; omega)) .returning).mono ?_
            rintro e u' wz ⟨rfl, rfl, ⟨vz, hbz, hoz⟩, hwz⟩
            have hfin : (os ++ [(L, lo)]) ++ (rs ++ [(L, hi)]).reverse = cov 61 0 lo0 hi0 := by
                          have h1 := HPL.out; have h2 := HPH.out; have h3 := HZ.out
                          rw [← HCV.out, HREC.out, if_neg HE.out]
                          simp only [h1, h2, h3, if_true, if_false, List.append_nil, List.nil_append, List.append_assoc, List.reverse_append, List.reverse_cons, List.reverse_nil, List.singleton_append, List.cons_append, reduceIte]
                          try simp
            rw [hfin] at hoz
            have tz := cell_of_heap hbz 0 vz (by simp)
            exact ⟨.tuple #[vz, .bool true], by simp [results, Tryz.results192, go_sem, tz], ⟨vz, rfl, hoz⟩, Sz.bw.trans hwz⟩
          · have HZ := Lib.hid hz
            have hzd : decide ((hi : Int) - 1 < (lo : Int) + 1) = false := by simp; omega
            go_wp2_with (first | (at_builtin; refine wpList_append_own_at _ rfl (.tmp 43) (.tmp 47) 62 rfl (w.heap.size + 2) 55 i0 (.agg #[.int .i64 0, .int .u64 0]) 2 16 Tryz.underlying62 hi' hz0 hz1 hz2 rfl (by decide) vo os.length _ rfl (S.lit (.cells #[.int .i64 (L : Nat), .int .u64 (lo : Nat)] 55)).oo ⟨_, 0, none⟩ 1 1 (pcs [(L, lo)]) rfl rfl (lit3 _ L lo _ (by simp)) (pcs_one _) (by unfold maxLen; (try simp); omega) (by first | omega | (simp; done) | (simp; omega)) (by have := S.facts; simp only [World.size_alloc]; omega) ?_; intro va wa howna hgrowa hnila hata; have hbxa := (S.lit (.cells #[.int .i64 (L : Nat), .int .u64 (lo : Nat)] 55)).box (S.lit _).oo hgrowa; obtain ⟨ba, ca, rfl⟩ := own_form howna; have Sa := (S.lit _).outs howna hgrowa hata; have hFa := Sa.facts) | (at_builtin; refine wpList_append_own_at _ rfl (.tmp 54) (.tmp 58) 62 rfl (w.heap.size + 2) 55 i0 (.agg #[.int .i64 0, .int .u64 0]) 2 16 Tryz.underlying62 hi' hz0 hz1 hz2 rfl (by decide) vr rs.length _ rfl (Sa.lit (.cells #[.int .i64 (L : Nat), .int .u64 (hi : Nat)] 55)).ro ⟨_, 0, none⟩ 1 1 (pcs [(L, hi)]) rfl rfl (lit3 _ L hi _ (by simp)) (pcs_one _) (by unfold maxLen; (try simp); omega) (by first | omega | (simp; done) | (simp; omega)) (by have := Sa.facts; simp only [World.size_alloc]; omega) ?_; intro vb wb hownb hgrowb hnilb hatb; have hbxb := (Sa.lit (.cells #[.int .i64 (L : Nat), .int .u64 (hi : Nat)] 55)).box (Sa.lit _).ro hgrowb; obtain ⟨bb, cb, rfl⟩ := own_form hownb; have Sb := (Sa.lit _).rights hownb hgrowb hatb; have hFb := Sb.facts))
            go_roundw
            case rel =>
              refine ⟨L + 1, (lo + 1) / 2, (hi - 1) / 2, _, _, (os ++ [(L, lo)]), (rs ++ [(L, hi)]), by omega, by omega, by omega, by first | rfl | (congr 1; done) | (congr 1; omega), by first | rfl | (congr 1; done) | (congr 1; omega), by go_num, by first | omega | (simp; done) | (simp; omega), by first | omega | (simp; done) | (simp; omega), ?_, Sb⟩
              have h1 := HPL.out; have h2 := HPH.out; have h3 := HZ.out
              rw [← HCV.out, HREC.out, if_neg HE.out, show 61 - (L + 1) = 60 - L by omega]
              simp only [h1, h2, h3, if_true, if_false, List.append_nil, List.nil_append, List.append_assoc, List.reverse_append, List.reverse_cons, List.reverse_nil, List.singleton_append, List.cons_append, reduceIte]
              try simp
            case measure => simp [intOf]; omega
        · have hqh : ((hi % 2 : Nat) : Int) = 1 := by omega
          have HPH := Lib.hid hq
          rw [hqh] at ah
          clear hqh
          have hz : ¬ hi < (lo + 1) := by omega
          have HZ := Lib.hid hz
          have hzd : decide ((hi : Int) < (lo : Int) + 1) = false := by simp; omega
          go_wp2_with (first | (at_builtin; refine wpList_append_own_at _ rfl (.tmp 43) (.tmp 47) 62 rfl (w.heap.size + 2) 55 i0 (.agg #[.int .i64 0, .int .u64 0]) 2 16 Tryz.underlying62 hi' hz0 hz1 hz2 rfl (by decide) vo os.length _ rfl (S.lit (.cells #[.int .i64 (L : Nat), .int .u64 (lo : Nat)] 55)).oo ⟨_, 0, none⟩ 1 1 (pcs [(L, lo)]) rfl rfl (lit3 _ L lo _ (by simp)) (pcs_one _) (by unfold maxLen; (try simp); omega) (by first | omega | (simp; done) | (simp; omega)) (by have := S.facts; simp only [World.size_alloc]; omega) ?_; intro va wa howna hgrowa hnila hata; have hbxa := (S.lit (.cells #[.int .i64 (L : Nat), .int .u64 (lo : Nat)] 55)).box (S.lit _).oo hgrowa; obtain ⟨ba, ca, rfl⟩ := own_form howna; have Sa := (S.lit _).outs howna hgrowa hata; have hFa := Sa.facts))
          go_roundw
          case rel =>
            refine ⟨L + 1, (lo + 1) / 2, hi / 2, _, _, (os ++ [(L, lo)]), rs, by omega, by omega, by omega, by first | rfl | (congr 1; done) | (congr 1; omega), by first | rfl | (congr 1; done) | (congr 1; omega), by go_num, by first | omega | (simp; done) | (simp; omega), by first | omega | (simp; done) | (simp; omega), ?_, Sa⟩
            have h1 := HPL.out; have h2 := HPH.out; have h3 := HZ.out
            rw [← HCV.out, HREC.out, if_neg HE.out, show 61 - (L + 1) = 60 - L by omega]
            simp only [h1, h2, h3, if_true, if_false, List.append_nil, List.nil_append, List.append_assoc, List.reverse_append, List.reverse_cons, List.reverse_nil, List.singleton_append, List.cons_append, reduceIte]
            try simp
          case measure => simp [intOf]; omega
      · have hpl : ((lo % 2 : Nat) : Int) = 0 := by omega
        have HPL := Lib.hid hp
        rw [hpl] at al
        clear hpl
        by_cases hq : hi % 2 = 0
        · have hqh : ((hi % 2 : Nat) : Int) = 0 := by omega
          have HPH := Lib.hid hq
          rw [hqh] at ah
          clear hqh
          have uh : IntKind.u64.wrap ((hi : Int) - 1) = (hi : Int) - 1 := by rw [IntKind.wrap_u64]; omega
          have hz : ¬ (hi - 1) < lo := by omega
          have HZ := Lib.hid hz
          have hzd : decide ((hi : Int) - 1 < (lo : Int)) = false := by simp; omega
          go_wp2_with (first | (at_builtin; refine wpList_append_own_at _ rfl (.tmp 54) (.tmp 58) 62 rfl (w.heap.size + 2) 55 i0 (.agg #[.int .i64 0, .int .u64 0]) 2 16 Tryz.underlying62 hi' hz0 hz1 hz2 rfl (by decide) vr rs.length _ rfl (S.lit (.cells #[.int .i64 (L : Nat), .int .u64 (hi : Nat)] 55)).ro ⟨_, 0, none⟩ 1 1 (pcs [(L, hi)]) rfl rfl (lit3 _ L hi _ (by simp)) (pcs_one _) (by unfold maxLen; (try simp); omega) (by first | omega | (simp; done) | (simp; omega)) (by have := S.facts; simp only [World.size_alloc]; omega) ?_; intro vb wb hownb hgrowb hnilb hatb; have hbxb := (S.lit (.cells #[.int .i64 (L : Nat), .int .u64 (hi : Nat)] 55)).box (S.lit _).ro hgrowb; obtain ⟨bb, cb, rfl⟩ := own_form hownb; have Sb := (S.lit _).rights hownb hgrowb hatb; have hFb := Sb.facts))
          go_roundw
          case rel =>
            refine ⟨L + 1, lo / 2, (hi - 1) / 2, _, _, os, (rs ++ [(L, hi)]), by omega, by omega, by omega, by first | rfl | (congr 1; done) | (congr 1; omega), by first | rfl | (congr 1; done) | (congr 1; omega), by go_num, by first | omega | (simp; done) | (simp; omega), by first | omega | (simp; done) | (simp; omega), ?_, Sb⟩
            have h1 := HPL.out; have h2 := HPH.out; have h3 := HZ.out
            rw [← HCV.out, HREC.out, if_neg HE.out, show 61 - (L + 1) = 60 - L by omega]
            simp only [h1, h2, h3, if_true, if_false, List.append_nil, List.nil_append, List.append_assoc, List.reverse_append, List.reverse_cons, List.reverse_nil, List.singleton_append, List.cons_append, reduceIte]
            try simp
          case measure => simp [intOf]; omega
        · have hqh : ((hi % 2 : Nat) : Int) = 1 := by omega
          have HPH := Lib.hid hq
          rw [hqh] at ah
          clear hqh
          have hz : ¬ hi < lo := by omega
          have HZ := Lib.hid hz
          have hzd : decide ((hi : Int) < (lo : Int)) = false := by simp; omega
          go_wp2_with fail
          go_roundw
          case rel =>
            refine ⟨L + 1, lo / 2, hi / 2, _, _, os, rs, by omega, by omega, by omega, by first | rfl | (congr 1; done) | (congr 1; omega), by first | rfl | (congr 1; done) | (congr 1; omega), by go_num, by first | omega | (simp; done) | (simp; omega), by first | omega | (simp; done) | (simp; omega), ?_, S⟩
            have h1 := HPL.out; have h2 := HPH.out; have h3 := HZ.out
            rw [← HCV.out, HREC.out, if_neg HE.out, show 61 - (L + 1) = 60 - L by omega]
            simp only [h1, h2, h3, if_true, if_false, List.append_nil, List.nil_append, List.append_assoc, List.reverse_append, List.reverse_cons, List.reverse_nil, List.singleton_append, List.cons_append, reduceIte]
            try simp
          case measure => simp [intOf]; omega
end Go.Proofs.YtbhppbeepmllaaaGreatDoor

namespace Go.Proofs.YtbhppbeepmllaaaGreatDoor
open Go.RowKit

def lvRow (c : Cfg) (vs : Nat → Lv) (n : Nat) : List Value := (List.range n).map fun l => .iface (c.lt l) (.pointer (some ⟨(vs l).a, 0, none⟩))
theorem lvRow_len (c : Cfg) (vs : Nat → Lv) (n : Nat) : (lvRow c vs n).length = n := by simp [lvRow]
theorem lvRow_at (c : Cfg) (vs : Nat → Lv) (n l : Nat) (h : l < n) : (lvRow c vs n)[l]? = some (.iface (c.lt l) (.pointer (some ⟨(vs l).a, 0, none⟩))) := by simp [lvRow, h]
theorem lvRow_succ (c : Cfg) (vs : Nat → Lv) (n : Nat) : lvRow c vs (n + 1) = lvRow c vs n ++ [.iface (c.lt n) (.pointer (some ⟨(vs n).a, 0, none⟩))] := by simp [lvRow, List.range_succ]
theorem lvRow_congr (c : Cfg) (vs us : Nat → Lv) (n : Nat) (h : ∀ l < n, vs l = us l) : lvRow c vs n = lvRow c us n := by
 unfold lvRow
 apply List.map_congr_left
 intro l hl
 rw [h l (by simpa using hl)]

structure StackOk (w : World) (st lb lcap : Nat) (vs : Nat → Lv) (c : Cfg) (cs : Nat → List Int) : Prop where
 hd : w.heap[st]? = some (.cells #[.int .i64 c.b, .int .i64 c.r, .int .i64 c.wd, .int .i64 c.m, .int .u64 c.s, .slice (some ⟨lb, 0, none⟩) (c.b + 1) lcap] 128 (0, 0))
 row : w.ownsRow 0 130 1 (.slice (some ⟨lb, 0, none⟩) (c.b + 1) lcap) (c.b + 1) (lvRow c vs (c.b + 1))
 lv : ∀ l, l ≤ c.b → LevelOk w (vs l) c l (cs l)
 sep : ∀ l, l ≤ c.b → ∀ k, k ≤ c.b → l ≠ k → (vs l).cb ≠ (vs k).cb

structure Upd (F : Nat → Prop) (w w' : World) : Prop where
 os : w'.os = w.os
 tape : w'.tape = w.tape
 output : w'.output = w.output
 size : w.heap.size ≤ w'.heap.size
 block : ∀ k, k < w.heap.size → ¬ F k → w'.heap[k]? = w.heap[k]?
theorem Upd.refl (F : Nat → Prop) (w : World) : Upd F w w := ⟨rfl, rfl, rfl, Nat.le_refl _, fun _ _ _ => rfl⟩
theorem Upd.trans {F : Nat → Prop} {a b c : World} (h : Upd F a b) (k : Upd F b c) : Upd F a c :=
 ⟨k.os.trans h.os, k.tape.trans h.tape, k.output.trans h.output, Nat.le_trans h.size k.size, fun i hi hn => (k.block i (Nat.lt_of_lt_of_le hi h.size) hn).trans (h.block i hi hn)⟩
theorem Upd.of_below {F : Nat → Prop} {w w' : World} (h : Below w.heap.size w w') : Upd F w w' := ⟨h.os, h.tape, h.output, h.size, fun k hk _ => h.block k hk⟩
theorem Upd.of_grown {F : Nat → Prop} {w w' : World} {b : Nat} (h : w.grownBy w' (some b)) (hb : F b) : Upd F w w' := ⟨h.os, h.tape, h.output, h.size, fun k hk hn => h.block k hk (by intro e; cases e; exact hn hb)⟩
theorem Upd.mono {F G : Nat → Prop} {w w' : World} (h : Upd F w w') (hFG : ∀ k, F k → G k) : Upd G w w' := ⟨h.os, h.tape, h.output, h.size, fun k hk hn => h.block k hk (fun hf => hn (hFG k hf))⟩
theorem Upd.below {F : Nat → Prop} {a b c : World} {B : Nat} (h : Upd F a b) (k : Below B b c) (hB : a.heap.size ≤ B) : Upd F a c :=
 ⟨k.os.trans h.os, k.tape.trans h.tape, k.output.trans h.output, Nat.le_trans h.size k.size, fun i hi hn => (k.block i (by omega)).trans (h.block i hi hn)⟩
theorem Upd.to_below {F : Nat → Prop} {w w' : World} (h : Upd F w w') (hF : ∀ k, F k → w.heap.size ≤ k) : Below w.heap.size w w' := ⟨h.os, h.tape, h.output, h.size, fun k hk => h.block k hk (fun hf => by have := hF k hf; omega)⟩

def cellsOf (c : Cfg) (vs : Nat → Lv) (k : Nat) : Prop := ∃ l, l ≤ c.b ∧ k = (vs l).cb

theorem LevelOk.cbKind {w : World} {v : Lv} {c : Cfg} {l : Nat} {cells : List Int} (h : LevelOk w v c l cells) : ∃ cur, w.heap[v.cb]? = some (.cells cur 2 (0, 0)) := by
 by_cases he : c.keys l ≤ c.wd
 ·obtain ⟨cur, h1, _⟩ := own_block (h.arr he).grid.row; exact ⟨cur, h1⟩
 ·obtain ⟨cur, h1, _⟩ := own_block (h.sk he).grid.row; exact ⟨cur, h1⟩
theorem LevelOk.heads {w : World} {v : Lv} {c : Cfg} {l : Nat} {cells : List Int} (h : LevelOk w v c l cells) : (∃ cur t, w.heap[v.a]? = some (.cells cur t (0, 0)) ∧ t ≠ 2) ∧ (∃ cur t, w.heap[v.g]? = some (.cells cur t (0, 0)) ∧ t ≠ 2) := by
 by_cases he : c.keys l ≤ c.wd
 ·exact ⟨⟨_, _, (h.arr he).hd, by decide⟩, ⟨_, _, (h.arr he).grid.hd, by decide⟩⟩
 ·exact ⟨⟨_, _, (h.sk he).hd, by decide⟩, ⟨_, _, (h.sk he).grid.hd, by decide⟩⟩
theorem kind_ne {w : World} {a b : Nat} {x y : Array Value} {t u : TypeId} (h1 : w.heap[a]? = some (.cells x t (0, 0))) (h2 : w.heap[b]? = some (.cells y u (0, 0))) (h : t ≠ u) : a ≠ b := by
 intro e; subst e
 have := h1.symm.trans h2
 simp at this
 exact h this.2
theorem LevelOk.upd {F : Nat → Prop} {w w' : World} {v : Lv} {c : Cfg} {l : Nat} {cells : List Int} (h : LevelOk w v c l cells) (hu : Upd F w w') (hF : ∀ k, F k → k < w.heap.size → ∃ cur, w.heap[k]? = some (.cells cur 2 (0, 0))) (hn : ¬ F v.cb) : LevelOk w' v c l cells := by
 obtain ⟨l1, l2, l3⟩ := h.lt
 obtain ⟨⟨x, t, h1, ht⟩, y, u, h2, hu2⟩ := h.heads
 refine h.keep (hu.block _ l1 ?_) (hu.block _ l2 ?_) (hu.block _ l3 hn)
 ·intro hf; obtain ⟨cur, hc⟩ := hF _ hf l1; exact kind_ne h1 hc ht rfl
 ·intro hf; obtain ⟨cur, hc⟩ := hF _ hf l2; exact kind_ne h2 hc hu2 rfl

end Go.Proofs.YtbhppbeepmllaaaGreatDoor

namespace Go.Proofs.YtbhppbeepmllaaaGreatDoor
open Go.RowKit

theorem LevelOk.kinds {w : World} {v : Lv} {c : Cfg} {l : Nat} {cells : List Int} (h : LevelOk w v c l cells) :
  (∃ cur t, w.heap[v.a]? = some (.cells cur t (0, 0)) ∧ (t = 301 ∨ t = 305)) ∧ (∃ cur, w.heap[v.g]? = some (.cells cur 351 (0, 0))) ∧ (∃ cur, w.heap[v.cb]? = some (.cells cur 2 (0, 0))) := by
 refine ⟨?_, ?_, h.cbKind⟩
 ·by_cases he : c.keys l ≤ c.wd
  ·exact ⟨_, _, (h.arr he).hd, .inl rfl⟩
  ·exact ⟨_, _, (h.sk he).hd, .inr rfl⟩
 ·by_cases he : c.keys l ≤ c.wd
  ·exact ⟨_, (h.arr he).grid.hd⟩
  ·exact ⟨_, (h.sk he).grid.hd⟩
theorem LevelOk.grownRow {w w' : World} {v : Lv} {c : Cfg} {l : Nat} {cells : List Int} (h : LevelOk w v c l cells) {B n : Nat} {s : Value} {xs : List Value} (ho : w.ownsRow B 130 1 s n xs) (hg : w.grownBy w' s.ownBlock) : LevelOk w' v c l cells := by
 obtain ⟨l1, l2, l3⟩ := h.lt
 obtain ⟨⟨x, t, h1, ht⟩, ⟨y, h2⟩, z, h3⟩ := h.kinds
 exact h.keep (hg.block _ l1 (own_ne_kind ho h1 (by rcases ht with rfl | rfl <;> decide)).symm) (hg.block _ l2 (own_ne_kind ho h2 (by decide)).symm) (hg.block _ l3 (own_ne_kind ho h3 (by decide)).symm)
theorem LevelOk.setHead {w : World} {v : Lv} {c : Cfg} {l : Nat} {cells : List Int} (h : LevelOk w v c l cells) {st : Nat} {cs : Array Value} (hd : w.heap[st]? = some (.cells cs 128 (0, 0))) (o : Nat) (u : Value) : LevelOk (w.setCell ⟨st, o, none⟩ u) v c l cells := by
 obtain ⟨⟨x, t, h1, ht⟩, ⟨y, h2⟩, z, h3⟩ := h.kinds
 exact h.keep (heap_setCell_other _ _ _ _ (kind_ne h1 hd (by rcases ht with rfl | rfl <;> decide))) (heap_setCell_other _ _ _ _ (kind_ne h2 hd (by decide))) (heap_setCell_other _ _ _ _ (kind_ne h3 hd (by decide)))
theorem lvNew_any (c : Cfg) (l : Nat) (w : World) (R : c.Ok) (hl : l ≤ c.b) :
  Calls Tryz.prog 94 #[.agg #[.int .i64 c.b, .int .i64 c.r, .int .i64 c.wd, .int .i64 c.m, .int .u64 c.s], .int .i64 l] w fun e w' => (∃ v : Lv, e = .returned (.tuple #[.iface (c.lt l) (.pointer (some ⟨v.a, 0, none⟩)), .int .i64 0]) ∧ NewLevel w.heap.size w' v c l (List.replicate (c.size l) 0)) ∧ Below w.heap.size w w' := by
 by_cases he : c.keys l ≤ c.wd
 ·rw [c.lt_arr he]; exact lvNew_arr c l w R hl he
 ·rw [c.lt_sk he]; exact lvNew_sk c l w R hl he

theorem own_below {w w' : World} {B : Nat} {e : TypeId} {size : Nat} {v : Value} {n : Nat} {xs : List Value} (h : w.ownsRow B e size v n xs) (hb : Below w.heap.size w w') : w'.ownsRow B e size v n xs := by
 refine ⟨h.1, ?_⟩
 rcases h.2 with h1 | ⟨g, cap, cur, h1, h2, h3, h4⟩
 ·exact .inl h1
 ·exact .inr ⟨g, cap, cur, h1, h2, (hb.block g (lt_of_block h3)).trans h3, h4⟩
structure Making (B : Nat) (w : World) (c : Cfg) (vs : Nat → Lv) (cs : Nat → List Int) (k : Nat) : Prop where
 lv : ∀ l, l < k → LevelOk w (vs l) c l (cs l)
 sep : ∀ l, l < k → ∀ j, j < k → l ≠ j → (vs l).cb ≠ (vs j).cb
 new : ∀ l, l < k → B ≤ (vs l).a ∧ B ≤ (vs l).g ∧ B ≤ (vs l).cb
theorem Making.add {B : Nat} {w w' : World} {c : Cfg} {vs : Nat → Lv} {cs : Nat → List Int} {k : Nat} {v : Lv} (h : Making B w c vs cs k) (hN : NewLevel w.heap.size w' v c k (cs k)) (hb : Below w.heap.size w w') (hB : B ≤ w.heap.size) :
  Making B w' c (fun l => if l = k then v else vs l) cs (k + 1) := by
 have hlt : ∀ l, l < k → (vs l).cb < w.heap.size := fun l hl => (h.lv l hl).lt.2.2
 refine ⟨?_, ?_, ?_⟩
 ·intro l hl
  by_cases e : l = k
  ·subst e; simpa using hN.ok
  ·simp only [if_neg e]
   have h1 := h.lv l (by omega)
   exact h1.below hb h1.lt.1 h1.lt.2.1 h1.lt.2.2
 ·intro l hl j hj hne
  by_cases e : l = k
  ·subst e
   have hj2 : j ≠ l := fun e => hne e.symm
   simp only [if_true, if_neg hj2]
   have := hlt j (by omega); have := hN.c1; omega
  ·by_cases e2 : j = k
   ·subst e2
    simp only [if_true, if_neg e]
    have := hlt l (by omega); have := hN.c1; omega
   ·simp only [if_neg e, if_neg e2]
    exact h.sep l (by omega) j (by omega) hne
 ·intro l hl
  by_cases e : l = k
  ·subst e
   simp only [if_true]
   have := hN.a1; have := hN.g1; have := hN.c1
   omega
  ·simp only [if_neg e]
   exact h.new l (by omega)
theorem Making.grownRow {B : Nat} {w w' : World} {c : Cfg} {vs : Nat → Lv} {cs : Nat → List Int} {k : Nat} (h : Making B w c vs cs k) {B' n : Nat} {s : Value} {xs : List Value} (ho : w.ownsRow B' 130 1 s n xs) (hg : w.grownBy w' s.ownBlock) : Making B w' c vs cs k :=
 ⟨fun l hl => (h.lv l hl).grownRow ho hg, h.sep, h.new⟩
theorem Making.below {B : Nat} {w w' : World} {c : Cfg} {vs : Nat → Lv} {cs : Nat → List Int} {k : Nat} (h : Making B w c vs cs k) (hb : Below w.heap.size w w') : Making B w' c vs cs k :=
 ⟨fun l hl => (h.lv l hl).below hb (h.lv l hl).lt.1 (h.lv l hl).lt.2.1 (h.lv l hl).lt.2.2, h.sep, h.new⟩
theorem Tryz.info130 : (Tryz.prog.info? 130).map (fun i => (i.zero, i.size, i.bytes)) = some (some .nilIface, 1, 16) := by kernel_rfl

structure NewStack (B : Nat) (w : World) (st lb lcap : Nat) (vs : Nat → Lv) (c : Cfg) (cs : Nat → List Int) : Prop where
 ok : StackOk w st lb lcap vs c cs
 s1 : B ≤ st
 l1 : B ≤ lb
 c1 : ∀ l, l ≤ c.b → B ≤ (vs l).cb

theorem stNew_any (c : Cfg) (w : World) (R : c.Ok) :
  Calls Tryz.prog 59 #[.agg #[.int .i64 c.b, .int .i64 c.r, .int .i64 c.wd, .int .i64 c.m, .int .u64 c.s]] w fun e w' => (∃ st lb lcap vs, e = .returned (.tuple #[.pointer (some ⟨st, 0, none⟩), .int .i64 0]) ∧ NewStack w.heap.size w' st lb lcap vs c (fun l => List.replicate (c.size l) 0)) ∧ Below w.heap.size w w' := by
 have HR := Lib.hid fun w => right_any c.b c.r c.wd c.m c.s w R.rc
 have HN := Lib.hid fun l w hl => lvNew_any c l w R hl
 have hb1 := R.b1
 have hb2 := R.b2
 go_enter Tryz.func59, Tryz.ntmps59
 go_wp2_with fail
 refine (HR.out _).mono ?_
 rintro e w1 ⟨rfl, hb⟩
 have kb := below_alloc hb
 have q0 : w1.cell? ⟨w.heap.size, 0, none⟩ = some (.int .i64 c.b) := (hb.cell (p := ⟨w.heap.size, 0, none⟩) (by simp)).trans (by go_simp)
 have q1 : w1.cell? ⟨w.heap.size, 1, none⟩ = some (.int .i64 c.r) := (hb.cell (p := ⟨w.heap.size, 1, none⟩) (by simp)).trans (by go_simp)
 have q2 : w1.cell? ⟨w.heap.size, 2, none⟩ = some (.int .i64 c.wd) := (hb.cell (p := ⟨w.heap.size, 2, none⟩) (by simp)).trans (by go_simp)
 have q3 : w1.cell? ⟨w.heap.size, 3, none⟩ = some (.int .i64 c.m) := (hb.cell (p := ⟨w.heap.size, 3, none⟩) (by simp)).trans (by go_simp)
 have q4 : w1.cell? ⟨w.heap.size, 4, none⟩ = some (.int .u64 c.s) := (hb.cell (p := ⟨w.heap.size, 4, none⟩) (by simp)).trans (by go_simp)
 have hlt : w.heap.size < w1.heap.size := by have := hb.size; simp at this; omega
 go_wp2_with fail
 obtain ⟨i0, hi, hz0, hz1, hz2⟩ := info_parts Tryz.info130
 go_loopw [5, 18] (fun i j wr => ∃ (k : Nat) (vs : Nat → Lv), k ≤ c.b + 1 ∧ j = .int .i64 k ∧ wr.heap[w.heap.size]? = some (.cells #[.int .i64 c.b, .int .i64 c.r, .int .i64 c.wd, .int .i64 c.m, .int .u64 c.s] 24 (0, 0)) ∧
  wr.heap[w1.heap.size]? = some (.cells #[.int .i64 c.b, .int .i64 c.r, .int .i64 c.wd, .int .i64 c.m, .int .u64 c.s, .slice none 0 0] 128 (0, 0)) ∧ wr.ownsRow w.heap.size 130 1 i k (lvRow c vs k) ∧ Making w.heap.size wr c vs (fun l => List.replicate (c.size l) 0) k ∧ Below w.heap.size w wr) (fun i j _ => c.b + 1 - (intOf j).toNat)
 case atStart =>
  refine ⟨0, fun _ => ⟨0, 0, 0, 0⟩, by omega, rfl, heap_alloc_under _ ((hb.block _ (by simp)).trans (heap_alloc_at _ rfl)), heap_alloc_at _ rfl, World.ownsRow_nil _ _ _ _, ⟨fun l hl => absurd hl (by omega), fun l hl => absurd hl (by omega), fun l hl => absurd hl (by omega)⟩, kb.alloc kb.size _⟩
 case round =>
  obtain ⟨k, vs, hk, rfl, h0, h1, hO, hM, hB⟩ := hrel
  have hl0 := lt_of_block h0
  have hl1 := lt_of_block h1
  clear q0 q1 q2 q3 q4
  have q0 : wr.cell? ⟨w.heap.size, 0, none⟩ = some (.int .i64 c.b) := by simp [World.cell?, h0]
  have q1 : wr.cell? ⟨w.heap.size, 1, none⟩ = some (.int .i64 c.r) := by simp [World.cell?, h0]
  have q2 : wr.cell? ⟨w.heap.size, 2, none⟩ = some (.int .i64 c.wd) := by simp [World.cell?, h0]
  have q3 : wr.cell? ⟨w.heap.size, 3, none⟩ = some (.int .i64 c.m) := by simp [World.cell?, h0]
  have q4 : wr.cell? ⟨w.heap.size, 4, none⟩ = some (.int .u64 c.s) := by simp [World.cell?, h0]
  by_cases hlt2 : k < c.b + 1
  ·have HNk := Lib.hid (HN.out k wr (by omega))
   go_wp2_with fail
   refine HNk.out.mono ?_
   rintro e w2 ⟨⟨u, rfl, hN⟩, hb2⟩
   have hM2 := hM.add hN hb2 hB.size
   have hO2 := own_below hO hb2
   have hB2 := hB.trans (hb2.mono hB.size)
   replace h0 := (hb2.block _ hl0).trans h0
   replace h1 := (hb2.block _ hl1).trans h1
   clear hM q0 q1 q2 q3 q4 hN HNk
   have HM := Lib.hid hM2
   clear hM2
   go_wp2_with (at_builtin; refine wpList_append_own_at _ rfl (.tmp 27) (.tmp 29) 126 rfl w.heap.size 130 i0 .nilIface 1 16 Tryz.underlying126 hi hz0 hz1 hz2 rfl (by decide) u5 k _ rfl (hO2.alloc (.cells #[.iface (c.lt k) (.pointer (some ⟨u.a, 0, none⟩))] 130)) ⟨w2.heap.size, 0, none⟩ 1 1 [.iface (c.lt k) (.pointer (some ⟨u.a, 0, none⟩))] rfl rfl (cell_one_new _ _ _) (by intro x hx; simp at hx; subst hx; rfl) (by unfold maxLen; omega) (by omega) (by have := hB2.size; simp; omega) ?_; intro v' w3 hown hgrow hnil hat)
   go_roundw
   case rel =>
    have hO3 := hO2.alloc (.cells #[.iface (c.lt k) (.pointer (some ⟨u.a, 0, none⟩))] 130)
    have hB3 := (hB2.alloc hB2.size (.cells #[.iface (c.lt k) (.pointer (some ⟨u.a, 0, none⟩))] 130)).grown hgrow (by have := hB2.size; simp; omega) (fun b e => (hO3.lt b e).1)
    have b0 := (hgrow.block _ (lt_of_block (heap_alloc_under _ h0)) (own_ne_kind hO3 (heap_alloc_under _ h0) (by decide)).symm).trans (heap_alloc_under _ h0)
    have b1 := (hgrow.block _ (lt_of_block (heap_alloc_under _ h1)) (own_ne_kind hO3 (heap_alloc_under _ h1) (by decide)).symm).trans (heap_alloc_under _ h1)
    refine ⟨k + 1, fun l => if l = k then u else vs l, by omega, by go_num, b0, b1, ?_, (HM.out.below ((Below.refl _ _).alloc (Nat.le_refl _) _)).grownRow hO3 hgrow, hB3⟩
    rw [lvRow_succ, lvRow_congr c _ vs k (fun l hl => by simp; omega)]
    simpa using hown
   case measure => simp [intOf]; omega
  ·obtain rfl : k = c.b + 1 := by omega
   obtain ⟨g, cap, hv⟩ := own_succ hO
   subst hv
   have p5 : wr.cell? ⟨w1.heap.size, 5, none⟩ = some (.slice none 0 0) := by simp [World.cell?, h1]
   have f5 : wr.frozen? ⟨w1.heap.size, 5, none⟩ = false := by simp [World.frozen?, h1]
   have hset := heap_setCell_same _ _ 5 _ _ (.slice (some ⟨g, 0, none⟩) (c.b + 1) cap) h1
   simp at hset
   have hw1 : w.heap.size ≤ w1.heap.size := kb.size
   have hgl := (hO.lt g rfl).1
   have HS := Lib.hid hset; have HO := Lib.hid hO
   clear hset hO
   go_wp2_with fail
   go_ret2
   have hO := HO.out
   refine ⟨⟨w1.heap.size, g, cap, vs, rfl, ⟨⟨HS.out, ?_, ?_, ?_⟩, hw1, hgl, fun l hl => (hM.new l (by omega)).2.2⟩⟩, hB.setCell hw1 _⟩
   ·exact (own_base hO (Nat.zero_le _)).kept (grown_set wr w1.heap.size 5 _) (.inr (own_ne_kind hO h1 (by decide)))
   ·intro l hl
    exact (hM.lv l (by omega)).setHead h1 _ _
   ·intro l hl j hj hne
    exact hM.sep l (by omega) j (by omega) hne
end Go.Proofs.YtbhppbeepmllaaaGreatDoor

namespace Go.Proofs.YtbhppbeepmllaaaGreatDoor
open Go.RowKit

noncomputable def Cfg.lvTold (c : Cfg) (l key : Nat) (cells : List Int) : Int := if c.keys l ≤ c.wd then cells.getD key 0 else c.told l key cells
theorem StackOk.lt {w : World} {st lb lcap : Nat} {vs : Nat → Lv} {c : Cfg} {cs : Nat → List Int} (S : StackOk w st lb lcap vs c cs) : st < w.heap.size ∧ lb < w.heap.size := ⟨lt_of_block S.hd, ints_lt2 S.row⟩
theorem StackOk.below {w w' : World} {st lb lcap : Nat} {vs : Nat → Lv} {c : Cfg} {cs : Nat → List Int} (S : StackOk w st lb lcap vs c cs) (hb : Below w.heap.size w w') : StackOk w' st lb lcap vs c cs :=
 ⟨(hb.block st S.lt.1).trans S.hd, own_below S.row hb, fun l hl => (S.lv l hl).below hb (S.lv l hl).lt.1 (S.lv l hl).lt.2.1 (S.lv l hl).lt.2.2, S.sep⟩

theorem stConfig_any (st lb lcap : Nat) (vs : Nat → Lv) (c : Cfg) (cs : Nat → List Int) (w : World) (S : StackOk w st lb lcap vs c cs) :
  Calls Tryz.prog 18 #[.pointer (some ⟨st, 0, none⟩)] w fun e w' => e = .returned (.agg #[.int .i64 c.b, .int .i64 c.r, .int .i64 c.wd, .int .i64 c.m, .int .u64 c.s]) ∧ Below w.heap.size w w' := by
 have q0 : w.cell? ⟨st, 0, none⟩ = some (.int .i64 c.b) := by simp [World.cell?, S.hd]
 have q1 : w.cell? ⟨st, 1, none⟩ = some (.int .i64 c.r) := by simp [World.cell?, S.hd]
 have q2 : w.cell? ⟨st, 2, none⟩ = some (.int .i64 c.wd) := by simp [World.cell?, S.hd]
 have q3 : w.cell? ⟨st, 3, none⟩ = some (.int .i64 c.m) := by simp [World.cell?, S.hd]
 have q4 : w.cell? ⟨st, 4, none⟩ = some (.int .u64 c.s) := by simp [World.cell?, S.hd]
 have q5 : w.cell? ⟨st, 5, none⟩ = some (.slice (some ⟨lb, 0, none⟩) (c.b + 1) lcap) := by simp [World.cell?, S.hd]
 have hlt := S.lt.1
 go_enter Tryz.func18, Tryz.ntmps18
 go_wp2
 exact bodyPost_ret (v := .agg #[.int .i64 c.b, .int .i64 c.r, .int .i64 c.wd, .int .i64 c.m, .int .u64 c.s]) (by simp [results, Tryz.results18, go_sem]) rfl ⟨rfl, by
  repeat' (first | exact Below.refl _ _ | refine Below.alloc ?_ (by first | exact Nat.le_refl _ | (simp; omega)) _ | refine Below.setCell ?_ (Nat.le_refl _) _)⟩

theorem stLevel_any (st lb lcap : Nat) (vs : Nat → Lv) (c : Cfg) (cs : Nat → List Int) (w : World) (S : StackOk w st lb lcap vs c cs) (l : Nat) (hl : l ≤ c.b) (hb2 : c.b ≤ 59) :
  Calls Tryz.prog 63 #[.pointer (some ⟨st, 0, none⟩), .int .i64 l] w fun e w' => e = .returned (.tuple #[.iface (c.lt l) (.pointer (some ⟨(vs l).a, 0, none⟩)), .bool true]) ∧ w = w' := by
 have q0 : w.cell? ⟨st, 0, none⟩ = some (.int .i64 c.b) := by simp [World.cell?, S.hd]
 have q1 : w.cell? ⟨st, 1, none⟩ = some (.int .i64 c.r) := by simp [World.cell?, S.hd]
 have q2 : w.cell? ⟨st, 2, none⟩ = some (.int .i64 c.wd) := by simp [World.cell?, S.hd]
 have q3 : w.cell? ⟨st, 3, none⟩ = some (.int .i64 c.m) := by simp [World.cell?, S.hd]
 have q4 : w.cell? ⟨st, 4, none⟩ = some (.int .u64 c.s) := by simp [World.cell?, S.hd]
 have q5 : w.cell? ⟨st, 5, none⟩ = some (.slice (some ⟨lb, 0, none⟩) (c.b + 1) lcap) := by simp [World.cell?, S.hd]
 have hc := (S.row.cellAt l (by omega)).trans (lvRow_at c vs (c.b + 1) l (by omega))
 have d1 : decide ((l : Int) < 0) = false := by simp
 have d2 : decide (((c.b + 1 : Nat) : Int) ≤ l) = false := by simp; omega
 have d3 : decide ((c.b : Int) + 1 ≤ l) = false := by simp; omega
 go_enter Tryz.func63, Tryz.ntmps63
 go_wp2
 go_ret2
 exact ⟨rfl, rfl⟩

theorem stPoint_any (st lb lcap : Nat) (vs : Nat → Lv) (c : Cfg) (cs : Nat → List Int) (w : World) (S : StackOk w st lb lcap vs c cs) (R : c.Ok) (l key : Nat) (hl : l ≤ c.b) (hk : key < c.keys l) :
  Calls Tryz.prog 120 #[.pointer (some ⟨st, 0, none⟩), .agg #[.int .i64 l, .int .u64 key]] w fun e w' => e = .returned (.tuple #[.int .i64 (c.lvTold l key (cs l)), .int .i64 0]) ∧ Below w.heap.size w w' := by
 have hb0 : Below w.heap.size w (w.alloc (.cells #[.int .i64 l, .int .u64 key] 55)) := (Below.refl _ _).alloc (Nat.le_refl _) _
 have S1 := S.below hb0
 have HL := Lib.hid (stLevel_any st lb lcap vs c cs _ S1 l hl R.b2)
 have L1 := S1.lv l hl
 unfold Cfg.lvTold
 by_cases he : c.keys l ≤ c.wd
 ·have HP := Lib.hid (aPoint_any (vs l).a (vs l).g (vs l).cb (vs l).cap c l (cs l) _ (L1.arr he) R key hk)
  rw [if_pos he]
  rw [c.lt_arr he] at HL
  clear hl hk he L1 S1
  go_enter Tryz.func120, Tryz.ntmps120
  go_wp2_with fail
  refine HL.out.mono ?_
  rintro e w1 ⟨rfl, rfl⟩
  go_wp2_with fail
  refine HP.out.mono ?_
  rintro e w1 ⟨rfl, rfl⟩
  go_wp2_with fail
  go_ret2
  exact ⟨rfl, hb0⟩
 ·have HP := Lib.hid (skPoint_any (vs l).a (vs l).g (vs l).cb (vs l).cap c l key (cs l) _ (L1.sk he) R hl hk)
  rw [if_neg he]
  rw [c.lt_sk he] at HL
  clear hl hk he L1 S1
  go_enter Tryz.func120, Tryz.ntmps120
  go_wp2_with fail
  refine HL.out.mono ?_
  rintro e w1 ⟨rfl, rfl⟩
  go_wp2_with fail
  refine HP.out.mono ?_
  rintro e w1 ⟨rfl, hb⟩
  go_wp2_with fail
  go_ret2
  exact ⟨rfl, below_alloc hb⟩

theorem stCells_any (st lb lcap : Nat) (vs : Nat → Lv) (c : Cfg) (cs : Nat → List Int) (w : World) (S : StackOk w st lb lcap vs c cs) (R : c.Ok) (l : Nat) (hl : l ≤ c.b) :
  Calls Tryz.prog 19 #[.pointer (some ⟨st, 0, none⟩), .int .i64 l] w fun e w' => (∃ g cc, e = .returned (.slice (some ⟨g, 0, none⟩) (c.size l) cc) ∧ w'.ownsRow w.heap.size 2 1 (.slice (some ⟨g, 0, none⟩) (c.size l) cc) (c.size l) (i64s (cs l))) ∧ Below w.heap.size w w' := by
 have HL := Lib.hid (stLevel_any st lb lcap vs c cs _ S l hl R.b2)
 have L1 := S.lv l hl
 have hlen := L1.len
 have hsp := Cfg.size_pos R l
 by_cases he : c.keys l ≤ c.wd
 ·have HP := Lib.hid (aCellsN_any (vs l).a (vs l).g (vs l).cb (vs l).cap (c.size l) c l (cs l) _ (L1.arr he) R hlen)
  rw [c.lt_arr he] at HL
  clear hl he L1 hlen hsp
  go_enter Tryz.func19, Tryz.ntmps19
  go_wp2_with fail
  refine HL.out.mono ?_
  rintro e w1 ⟨rfl, rfl⟩
  go_wp2_with fail
  refine HP.out.mono ?_
  rintro e w1 ⟨⟨g, cc, rfl, ho⟩, hb⟩
  go_wp2_with fail
  go_ret
  exact ⟨⟨g, cc, rfl, ho⟩, hb⟩
 ·have HP := Lib.hid (skCellsN_any (vs l).a (vs l).g (vs l).cb (vs l).cap (c.size l) c l (cs l) _ (L1.sk he) hlen (by omega) (by omega))
  rw [c.lt_sk he] at HL
  clear hl he L1 hlen hsp
  go_enter Tryz.func19, Tryz.ntmps19
  go_wp2_with fail
  refine HL.out.mono ?_
  rintro e w1 ⟨rfl, rfl⟩
  go_wp2_with fail
  refine HP.out.mono ?_
  rintro e w1 ⟨⟨g, cc, rfl, ho⟩, hb⟩
  go_wp2_with fail
  go_ret
  exact ⟨⟨g, cc, rfl, ho⟩, hb⟩

theorem stAt_any (st lb lcap : Nat) (vs : Nat → Lv) (c : Cfg) (cs : Nat → List Int) (w : World) (S : StackOk w st lb lcap vs c cs) (R : c.Ok) (l : Nat) (hl : l ≤ c.b) :
  Calls Tryz.prog 165 #[.pointer (some ⟨st, 0, none⟩), .int .i64 l] w fun e w' => (∃ v : Lv, e = .returned (.tuple #[.iface (c.lt l) (.pointer (some ⟨v.a, 0, none⟩)), .bool true]) ∧ NewLevel w.heap.size w' v c l (cs l)) ∧ Below w.heap.size w w' := by
 have HL := Lib.hid (stLevel_any st lb lcap vs c cs _ S l hl R.b2)
 have L1 := S.lv l hl
 by_cases he : c.keys l ≤ c.wd
 ·have HP := Lib.hid (lvCopy_arr (vs l) c l (cs l) _ R L1 he)
  rw [c.lt_arr he] at HL ⊢
  clear hl he L1
  go_enter Tryz.func165, Tryz.ntmps165
  go_wp2_with fail
  refine HL.out.mono ?_
  rintro e w1 ⟨rfl, rfl⟩
  go_wp2_with fail
  refine HP.out.mono ?_
  rintro e w1 ⟨⟨v, rfl, hN⟩, hb⟩
  have HN := Lib.hid hN
  clear hN
  go_wp2_with fail
  go_ret2
  exact ⟨⟨v, rfl, HN.out⟩, hb⟩
 ·have HP := Lib.hid (lvCopy_sk (vs l) c l (cs l) _ R L1 he)
  rw [c.lt_sk he] at HL ⊢
  clear hl he L1
  go_enter Tryz.func165, Tryz.ntmps165
  go_wp2_with fail
  refine HL.out.mono ?_
  rintro e w1 ⟨rfl, rfl⟩
  go_wp2_with fail
  refine HP.out.mono ?_
  rintro e w1 ⟨⟨v, rfl, hN⟩, hb⟩
  have HN := Lib.hid hN
  clear hN
  go_wp2_with fail
  go_ret2
  exact ⟨⟨v, rfl, HN.out⟩, hb⟩
end Go.Proofs.YtbhppbeepmllaaaGreatDoor
