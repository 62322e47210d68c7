import Derived.Test.YtbhppbeepmllaaaGreatDoorM13c95f72
import Derived.RangeFuncNested
import Derived.RangeFuncBound
import Derived.RangeFuncCalls
import Derived.RangeFuncLeaves
import Derived.Shelf.Abstract
import Derived.Shelf.RegionOpen
import Derived.OwnWalkIn
import Derived.TacticsInMore
import Derived.LoopNIn
import Derived.LoopIn
import Derived.Test.YtbhppbeepmllaaaGreatDoorMce0bf2f6
set_option linter.unusedVariables false
set_option linter.unusedSimpArgs false
set_option maxRecDepth 100000
set_option maxHeartbeats 2000000
namespace Go.Proofs.YtbhppbeepmllaaaGreatDoor
open Go.RowKit

theorem own_some {W : World} {base : Nat} {e : TypeId} {size : Nat} {b : Option Addr} {n m c : Nat} {xs : List Value} (h : W.ownsRow base e size (.slice b m c) n xs) (hn : 0 < n) : ∃ g, b = some ⟨g, 0, none⟩ := by
  rcases h.2 with ⟨_, h⟩ | ⟨g, cap, _, h, _⟩
  · omega
  · cases h; exact ⟨g, rfl⟩
theorem plit4' (V : World) (a b c d : Nat) (x y : Int) (hx : x = (b : Int)) (hy : y = (d : Int)) (z : Nat) (hz : z = V.heap.size) : ∀ j u, (pcs [(a, b), (c, d)])[j]? = some u → (V.alloc (.cells #[.int .i64 a, .int .u64 x, .int .i64 c, .int .u64 y] 55)).cell? ((⟨z, 0, none⟩ : Addr).add j) = some u := by
  subst hx hy
  exact plit4 V a b c d z hz
structure HvSt (B : Nat) (w : World) (vo vr vn : Value) (out : List Fd) (row next : List Pc) : Prop where
  oo : w.ownsRow B 200 3 vo out.length (fnds out)
  rr : w.ownsRow B 55 2 vr row.length (pcs row)
  nn : w.ownsRow B 55 2 vn next.length (pcs next)
  ap : apartV vn vr
theorem HvSt.below {B : Nat} {w w' : World} {vo vr vn : Value} {out : List Fd} {row next : List Pc} (S : HvSt B w vo vr vn out row next) (hb : Below w.heap.size w w') : HvSt B w' vo vr vn out row next :=
  ⟨own_below S.oo hb, own_below S.rr hb, own_below S.nn hb, S.ap⟩
theorem HvSt.lit {B : Nat} {w : World} {vo vr vn : Value} {out : List Fd} {row next : List Pc} (S : HvSt B w vo vr vn out row next) (o : Obj) : HvSt B (w.alloc o) vo vr vn out row next := S.below ((Below.refl _ _).alloc (Nat.le_refl _) o)
theorem own_kinds {w : World} {B1 B2 : Nat} {e1 e2 : TypeId} {s1 s2 : Nat} {v1 v2 : Value} {n1 n2 : Nat} {xs ys : List Value} (h1 : w.ownsRow B1 e1 s1 v1 n1 xs) (h2 : w.ownsRow B2 e2 s2 v2 n2 ys) (h : e1 ≠ e2) : v1.ownBlock = none ∨ v1.ownBlock ≠ v2.ownBlock := by
  rcases h1.2 with ⟨e, _⟩ | ⟨g, cap, cur, e, _, hc, _⟩
  · subst e; exact .inl rfl
  · subst e
    refine .inr fun e => ?_
    exact own_ne_kind h2 hc h e.symm
theorem HvSt.outs {B : Nat} {w w' : World} {vo vo' vr vn : Value} {out : List Fd} {row next : List Pc} (S : HvSt B w vo vr vn out row next) (f : Fd) (h : w'.ownsRow B 200 3 vo' (out.length + 1) (fnds out ++ fnds [f])) (hg : w.grownBy w' vo.ownBlock) : HvSt B w' vo' vr vn (out ++ [f]) row next := by
  refine ⟨by rw [fnds_append, List.length_append]; exact h, S.rr.kept hg (own_kinds S.rr S.oo (by decide)), S.nn.kept hg (own_kinds S.nn S.oo (by decide)), S.ap⟩
theorem HvSt.nexts {B : Nat} {w w' : World} {vo vr vn vn' : Value} {out : List Fd} {row next : List Pc} (S : HvSt B w vo vr vn out row next) (p q : Pc) (h : w'.ownsRow B 55 2 vn' (next.length + 2) (pcs next ++ pcs [p, q])) (hg : w.grownBy w' vn.ownBlock)
    (hat : vn'.ownBlock = vn.ownBlock ∨ vn'.ownBlock = some w.heap.size) : HvSt B w' vo vr vn' out row (next ++ [p, q]) := by
  refine ⟨S.oo.kept hg (own_kinds S.oo S.nn (by decide)), S.rr.kept hg S.ap.symm.ne, by rw [pcs_append, List.length_append]; exact h, apart_own S.rr S.ap hat⟩

theorem HvSt.outs1 {w0 w2 wa : World} {vo va vr vn : Value} {out : List Fd} {row next : List Pc} {b : Nat} {cs : Array Value} (S : HvSt w0.heap.size w2 vo vr vn out row next) (g : w2.heap[b]? = some (.cells cs 55 (0, 0))) (k : Below w0.heap.size w0 w2) (o : Obj) (f : Fd)
    (h : wa.ownsRow w0.heap.size 200 3 va (out.length + 1) (fnds out ++ fnds [f])) (hg : (w2.alloc o).grownBy wa vo.ownBlock) :
    HvSt w0.heap.size wa va vr vn (out ++ [f]) row next ∧ wa.heap[b]? = some (.cells cs 55 (0, 0)) ∧ Below w0.heap.size w0 wa :=
  ⟨(S.lit o).outs f h hg, (hg.block _ (lt_of_block (heap_alloc_under _ g)) (own_ne_kind (S.lit o).oo (heap_alloc_under _ g) (by decide)).symm).trans (heap_alloc_under _ g), (k.alloc k.size o).grown hg (by have := k.size; simp; omega) (fun b e => ((S.lit o).oo.lt b e).1)⟩
theorem HvSt.nexts1 {w0 w2 wa : World} {vo vn' vr vn : Value} {out : List Fd} {row next : List Pc} (S : HvSt w0.heap.size w2 vo vr vn out row next) (k : Below w0.heap.size w0 w2) (o : Obj) (p q : Pc)
    (h : wa.ownsRow w0.heap.size 55 2 vn' (next.length + 2) (pcs next ++ pcs [p, q])) (hg : (w2.alloc o).grownBy wa vn.ownBlock) (hat : vn'.ownBlock = vn.ownBlock ∨ vn'.ownBlock = some (w2.alloc o).heap.size) :
    HvSt w0.heap.size wa vo vr vn' out row (next ++ [p, q]) ∧ Below w0.heap.size w0 wa :=
  ⟨(S.lit o).nexts p q h hg hat, (k.alloc k.size o).grown hg (by have := k.size; simp; omega) (fun b e => ((S.lit o).nn.lt b e).1)⟩
def hvPost (told : Nat → Nat → Int) (least : Int) (budget b : Nat) (w : World) (e : Ending) (w' : World) : Prop :=
  (∀ l, hvGo told least budget (b + 1) 0 [(b, 0)] [] = some l → ∃ v, e = .returned (.tuple #[v, .int .i64 0]) ∧ w'.ownsRow w.heap.size 200 3 v l.length (fnds l)) ∧
  (hvGo told least budget (b + 1) 0 [(b, 0)] [] = none → e = .returned (.tuple #[.slice none 0 0, .int .i64 7])) ∧ Below w.heap.size w w'
theorem heavy_any (st lb lcap : Nat) (vs : Nat → Lv) (c : Cfg) (cs : Nat → List Int) (w : World) (S : StackOk w st lb lcap vs c cs) (R : c.Ok) (least : Int) (budget : Nat) (h1 : 1 ≤ least) (h2 : least ≤ 4611686018427387904) (h3 : budget ≤ 4096) :
    Calls Tryz.prog 123 #[.pointer (some ⟨st, 0, none⟩), .int .i64 least, .int .i64 budget] w (hvPost (fun l i => c.lvTold l i (cs l)) least budget c.b w) := by
  have hb1 := R.b1
  have hb2 := R.b2
  have HC := Lib.hid (stConfig_any st lb lcap vs c cs w S)
  have hcf := fun w => cfgBits c.b c.r c.wd c.m c.s w
  have d1 : decide (least < 1) = false := by simp; omega
  have d2 : decide ((4096 : Int) < budget) = false := by simp; omega
  obtain ⟨told, htold⟩ : ∃ told : Nat → Nat → Int, (fun l i => c.lvTold l i (cs l)) = told := ⟨_, rfl⟩
  have HP := Lib.hid fun w S l i hl hi => stPoint_any st lb lcap vs c cs w S R l i hl hi
  have HT := Lib.hid htold
  rw [htold]
  clear htold
  obtain ⟨iF, hF, hF0, hF1, hF2⟩ := info_parts Tryz.info200
  obtain ⟨iP, hP, hP0, hP1, hP2⟩ := info_parts Tryz.info55
  go_enter Tryz.func123, Tryz.ntmps123
  go_wp2_with fail
  refine HC.out.mono ?_
  rintro e w1 ⟨rfl, k1⟩
  go_wp2_with fail
  clear hcf d1 d2 HC
  go_loopw [9, 10, 11, 34] (fun a o r cc wr => ∃ (t asked : Nat) (row : List Pc) (out : List Fd), t ≤ c.b + 1 ∧ cc = .int .i64 t ∧ a = .int .i64 asked ∧ asked ≤ budget ∧ (∀ p ∈ row, p.1 + t = c.b ∧ p.2 < 2 ^ t) ∧
    hvGo told least budget (c.b + 1 - t) asked row out = hvGo told least budget (c.b + 1) 0 [(c.b, 0)] [] ∧ out.length ≤ asked ∧ row.length ≤ 8192 ∧ HvSt w.heap.size wr o r (.slice none 0 0) out row [] ∧ Below w.heap.size w wr) (fun a o r cc _ => c.b + 1 - (intOf cc).toNat)
  case atStart =>
    refine ⟨0, 0, [(c.b, 0)], [], by omega, rfl, rfl, by omega, by simp, rfl, by simp, by simp, ⟨World.ownsRow_nil _ _ _ _, ?_, World.ownsRow_nil _ _ _ _, by intro b h; simp [Value.ownBlock] at h⟩, k1.alloc k1.size _⟩
    exact own_base (World.ownsRow_lit w1 #[.int .i64 c.b, .int .u64 0] 1 (Nat.le_refl _) (by simp [maxLen]) rfl) k1.size
  case round =>
    obtain ⟨t, asked, row, out, ht, rfl, rfl, has, hrow, hgo, hol, hrl, hS, hB⟩ := hrel
    obtain ⟨rb, rc, rfl⟩ := own_form hS.rr
    by_cases hlt : t < c.b + 1
    · have dt : decide ((t : Int) < (c.b : Int) + 1) = true := by rw [decide_eq_true_eq]; omega
      by_cases hbud : budget < asked + row.length
      · have db : decide ((budget : Int) < (asked : Int) + row.length) = true := by rw [decide_eq_true_eq]; omega
        have HS := Lib.hid hS
        have HG : Hid (hvGo told least budget (c.b + 1) 0 [(c.b, 0)] [] = none) := Lib.hid (by
          rw [← hgo, show c.b + 1 - t = (c.b - t) + 1 by omega, hvGo, if_pos hbud])
        clear hgo hrow hS
        go_wp2_with fail
        go_ret2
        exact ⟨fun l h => (by rw [HG.out] at h; cases h), fun _ => (by simp), hB⟩
      · have db : decide ((budget : Int) < (asked : Int) + row.length) = false := by rw [decide_eq_false_iff_not]; omega
        have hgo2 : hvGo told least budget (c.b - t) (asked + row.length) (hvNext told least row) (out ++ hvKeep told least row) = hvGo told least budget (c.b + 1) 0 [(c.b, 0)] [] := by
          rw [← hgo, show c.b + 1 - t = (c.b - t) + 1 by omega, hvGo, if_neg hbud]
        have HG := Lib.hid (And.intro hgo2 hrow)
        clear hgo hgo2 hrow
        have HS := Lib.hid hS
        clear hS
        go_wp2_with fail
        obtain ⟨wo, hwo⟩ : ∃ wo : World, wo = wr := ⟨_, rfl⟩
        go_loopw [10, 12, 45] (fun o n j wr2 => ∃ k : Nat, k ≤ row.length ∧ j = .int .i64 k ∧ HvSt w.heap.size wr2 o (.slice rb row.length rc) n (out ++ hvKeep told least (row.take k)) row (hvNext told least (row.take k)) ∧ Below w.heap.size w wr2) (fun o n j _ => row.length - (intOf j).toNat)
        case atStart => exact ⟨0, by omega, rfl, by simpa [hvKeep, hvNext] using hwo ▸ HS.out, hwo ▸ hB⟩
        case round =>
          obtain ⟨k, hk, rfl, hS, hB2⟩ := hrel
          have sz2 := hB2.size
          by_cases hlk : k < row.length
          · obtain ⟨⟨p1, p2⟩, hp⟩ : ∃ p, row[k]? = some p := ⟨row[k], List.getElem?_eq_getElem hlk⟩
            obtain ⟨hp1, hp2⟩ := HG.out.2 _ (List.mem_of_getElem? hp)
            dsimp only at hp1 hp2
            obtain ⟨rg, rfl⟩ := own_some hS.rr (by omega)
            have htk := take_snoc' hp
            obtain ⟨a1, a2⟩ := pcs_at _ _ _ hp
            have c1 := (hS.rr.cellAt (k * 2) (by omega)).trans a1
            have c2 := (hS.rr.cellAt (k * 2 + 1) (by omega)).trans a2
            dsimp only at c1 c2
            have hkeys : p2 < c.keys p1 := by unfold Cfg.keys; rw [show c.b - p1 = t by omega]; exact hp2
            have HPk := Lib.hid fun w S => HP.out w S p1 p2 (by omega) hkeys
            have hkt : 2 ^ t ≤ 2 ^ 59 := Nat.pow_le_pow_right (by omega) (by omega)
            have hp64 : p2 < 576460752303423488 := by omega
            have hol2 : (out ++ hvKeep told least (row.take k)).length ≤ 8192 := by
              have := hvKeep_len told least (row.take k)
              rw [List.length_append]; simp at this ⊢; omega
            have hnl2 : (hvNext told least (row.take k)).length ≤ 8192 := by
              have := hvNext_len told least (row.take k)
              simp at this; omega
            have hky := fun h => hvKeep_yes (told := told) (least := least) (row.take k) (p1, p2) h
            have hkn := fun h => hvKeep_no (told := told) (least := least) (row.take k) (p1, p2) h
            have hny := fun h => hvNext_yes (told := told) (least := least) (row.take k) (p1, p2) h
            have hnn := fun h => hvNext_no (told := told) (least := least) (row.take k) (p1, p2) h
            rw [← htk] at hky hkn hny hnn
            have HT1 := Lib.hid (congrFun (congrFun HT.out p1) p2)
            have HK := Lib.hid (And.intro hky (And.intro hkn (And.intro hny hnn)))
            have hp2k := hp2
            clear hky hkn hny hnn a1 a2 htk hkeys hkt hp2
            generalize hout : out ++ hvKeep told least (row.take k) = out1 at *
            generalize hnx : hvNext told least (row.take k) = next1 at *
            have HS2 := Lib.hid hS
            clear hS
            go_wp2_with fail
            have kW : Below w.heap.size w (wr.alloc (.cells #[.int .i64 p1, .int .u64 p2] 55)) := hB2.alloc sz2 _
            refine (HPk.out _ (S.below kW)).mono ?_
            rintro e w2 ⟨rfl, hb2'⟩
            have e1 : c.lvTold p1 p2 (cs p1) = told p1 p2 := HT1.out
            rw [e1]
            clear e1 HT1 HPk
            generalize told p1 p2 = tv at HK ⊢
            have g0 : w2.heap[wr.heap.size]? = some (.cells #[.int .i64 p1, .int .u64 p2] 55 (0, 0)) := (hb2'.block _ (by simp)).trans (heap_alloc_at _ rfl)
            have S2 := (HS2.out.lit (.cells #[.int .i64 p1, .int .u64 p2] 55)).below hb2'
            have kW2 := kW.trans (hb2'.mono kW.size)
            have sz3 := kW2.size
            have q0 : w2.cell? ⟨wr.heap.size, 0, none⟩ = some (.int .i64 p1) := cell_of_heap g0 0 _ rfl
            have q1 : w2.cell? ⟨wr.heap.size, 1, none⟩ = some (.int .u64 p2) := cell_of_heap g0 1 _ rfl
            have l0 := lt_of_block g0
            clear hb2' c1 c2 HS2 kW
            by_cases hle : least ≤ tv
            · have dl : decide (tv < least) = false := by rw [decide_eq_false_iff_not]; omega
              have HLE := Lib.hid hle
              clear hle
              go_wp2_with (at_builtin; refine wpList_append_own_at _ rfl (.tmp 58) (.tmp 62) 192 rfl w.heap.size 200 iF (.agg #[.int .i64 0, .int .u64 0, .int .i64 0]) 3 24 Tryz.underlying192 hF hF0 hF1 hF2 rfl (by decide) u10 out1.length _ rfl (S2.lit (.cells #[.int .i64 p1, .int .u64 p2, .int .i64 tv] 200)).oo ⟨_, 0, none⟩ 1 1 (fnds [((p1, p2), tv)]) rfl rfl (flit3 _ p1 p2 tv _ rfl) (fnds_one _) (by unfold maxLen; omega) (by omega) (by simp; omega) ?_; intro va wa howna hgrowa hnila hata; obtain ⟨S3, ga, kWa⟩ := S2.outs1 g0 kW2 _ ((p1, p2), tv) howna hgrowa; have q0a := cell_of_heap ga 0 (.int .i64 p1) rfl; have q1a := cell_of_heap ga 1 (.int .u64 p2) rfl; have sza := kWa.size; have la := lt_of_block ga; have HS3 := Lib.hid S3; clear howna hgrowa hnila hata q0 q1 S3)
              by_cases hp0 : p1 = 0
              · subst hp0
                have HZ := Lib.hid fun w => halves_zero c.b p2 w hb1 hb2 (by rw [show c.b - 0 = t by omega]; exact hp2k)
                refine (HZ.out _).mono ?_
                rintro e w5 ⟨rfl, hb5⟩
                have S5 := HS3.out.below hb5
                have kW5 := kWa.trans (hb5.mono sza)
                have HS5 := Lib.hid S5
                clear hb5 HZ ga q0a q1a S5
                go_wp2_with fail
                go_roundw
                case rel =>
                  obtain ⟨hky, hkn, hny, hnn⟩ := HK.out
                  have hle2 : least ≤ tv := HLE.out
                  have hS4 : HvSt w.heap.size ((w5.alloc (.cells #[.int .i64 0, .int .u64 0] 55)).alloc (.cells #[.int .i64 0, .int .u64 0] 55)) va (.slice (some ⟨rg, 0, none⟩) row.length rc) u12 (out ++ hvKeep told least (row.take (k + 1))) row (hvNext told least (row.take (k + 1))) := by
                    rw [hky hle2, hny hle2, ← List.append_assoc, hout]
                    simpa using (HS5.out.lit (.cells #[.int .i64 0, .int .u64 0] 55)).lit (.cells #[.int .i64 0, .int .u64 0] 55)
                  first
                    | exact ⟨k + 1, by omega, by go_num, hS4, (kW5.alloc kW5.size _).alloc (by have := kW5.size; simp; omega) _⟩
                    | ((repeat apply Exists.intro); exact ⟨⟨k + 1, by omega, by go_num, hS4, (kW5.alloc kW5.size _).alloc (by have := kW5.size; simp; omega) _⟩, rfl⟩)

                case measure => simp [intOf]; omega
              · obtain ⟨m, rfl⟩ : ∃ m, p1 = m + 1 := ⟨p1 - 1, by omega⟩
                have HZ := Lib.hid fun w => halves_any c.b (m + 1) p2 w hb1 hb2 (by omega) (by omega) (by rw [show c.b - (m + 1) = t by omega]; exact hp2k)
                rw [show m + 1 - 1 = m from rfl] at HZ
                refine (HZ.out _).mono ?_
                rintro e w5 ⟨rfl, hb5⟩
                have S5 := HS3.out.below hb5
                have kW5 := kWa.trans (hb5.mono sza)
                have k6 : Below w.heap.size w ((w5.alloc (.cells #[.int .i64 m, .int .u64 (2 * (p2 : Int))] 55)).alloc (.cells #[.int .i64 m, .int .u64 (2 * (p2 : Int) + 1)] 55)) := (kW5.alloc kW5.size _).alloc (by have := kW5.size; simp; omega) _
                have S6 := (S5.lit (.cells #[.int .i64 m, .int .u64 (2 * (p2 : Int))] 55)).lit (.cells #[.int .i64 m, .int .u64 (2 * (p2 : Int) + 1)] 55)
                have sz6 := k6.size
                clear hb5 HZ ga q0a q1a
                go_wp2_with (at_builtin; refine wpList_append_own_at _ rfl (.tmp 72) (.tmp 75) 62 rfl w.heap.size 55 iP (.agg #[.int .i64 0, .int .u64 0]) 2 16 Tryz.underlying62 hP hP0 hP1 hP2 rfl (by decide) u12 next1.length _ rfl (S6.lit (.cells #[.int .i64 m, .int .u64 (2 * (p2 : Int)), .int .i64 m, .int .u64 (2 * (p2 : Int) + 1)] 55)).nn ⟨_, 0, none⟩ 2 2 (pcs [(m, 2 * p2), (m, 2 * p2 + 1)]) rfl rfl (plit4' _ m (2 * p2) m (2 * p2 + 1) _ _ (by simp) (by simp) _ (by simp)) (pcs_one _) (by unfold maxLen; omega) (by omega) (by simp at sz6 ⊢; omega) ?_; intro vb wb hownb hgrowb hnilb hatb; obtain ⟨S7, kWb⟩ := S6.nexts1 k6 _ (m, 2 * p2) (m, 2 * p2 + 1) hownb hgrowb hatb; have HS7 := Lib.hid S7; clear hownb hgrowb hnilb hatb S7)
                go_roundw
                case rel =>
                  obtain ⟨hky, hkn, hny, hnn⟩ := HK.out
                  have hle2 : least ≤ tv := HLE.out
                  have hS4 : HvSt w.heap.size wb va (.slice (some ⟨rg, 0, none⟩) row.length rc) vb (out ++ hvKeep told least (row.take (k + 1))) row (hvNext told least (row.take (k + 1))) := by
                    rw [hky hle2, hny hle2, ← List.append_assoc, hout]
                    exact HS7.out
                  first
                    | exact ⟨k + 1, by omega, by go_num, hS4, kWb⟩
                    | ((repeat apply Exists.intro); exact ⟨⟨k + 1, by omega, by go_num, hS4, kWb⟩, rfl⟩)
                case measure => simp [intOf]; omega
            · have dl : decide (tv < least) = true := by rw [decide_eq_true_eq]; omega
              have HLE := Lib.hid hle
              clear hle
              go_wp2_with fail
              go_roundw
              case rel =>
                obtain ⟨hky, hkn, hny, hnn⟩ := HK.out
                have hle2 : tv < least := by have := HLE.out; omega
                have hS3 : HvSt w.heap.size w2 u10 (.slice (some ⟨rg, 0, none⟩) row.length rc) u12 (out ++ hvKeep told least (row.take (k + 1))) row (hvNext told least (row.take (k + 1))) := by
                  rw [hkn hle2, hnn hle2, hout]; exact S2
                first
                  | exact ⟨k + 1, by omega, by go_num, hS3, kW2⟩
                  | ((repeat apply Exists.intro); exact ⟨⟨k + 1, by omega, by go_num, hS3, kW2⟩, rfl⟩)
              case measure => simp [intOf]; omega
          · obtain rfl : k = row.length := by omega
            rw [List.take_length] at hS
            have HS8 := Lib.hid hS
            clear hS
            go_wp2_with fail
            go_roundw
            case rel =>
              obtain ⟨hgo2, hrow⟩ := HG.out
              have h8 := HS8.out
              have hl1 := hvNext_len told least row
              have hl2 := hvKeep_len told least row
              have hfin : (hvNext told least row).length ≤ 8192 := by omega
              have hout2 : (out ++ hvKeep told least row).length ≤ asked + row.length := by rw [List.length_append]; omega
              have hgo3 : hvGo told least budget (c.b + 1 - (t + 1)) (asked + row.length) (hvNext told least row) (out ++ hvKeep told least row) = hvGo told least budget (c.b + 1) 0 [(c.b, 0)] [] := by rw [show c.b + 1 - (t + 1) = c.b - t by omega]; exact hgo2
              have hS9 : HvSt w.heap.size wr u10 u12 (.slice none 0 0) (out ++ hvKeep told least row) (hvNext told least row) [] := ⟨h8.oo, h8.nn, World.ownsRow_nil _ _ _ _, by intro b h; simp [Value.ownBlock] at h⟩
              first
                | exact ⟨t + 1, asked + row.length, hvNext told least row, out ++ hvKeep told least row, by omega, by go_num, by go_num, by omega, hvNext_mem hrow, hgo3, hout2, hfin, hS9, hB2⟩
                | ((repeat apply Exists.intro); exact ⟨⟨t + 1, asked + row.length, hvNext told least row, out ++ hvKeep told least row, by omega, by go_num, by go_num, by omega, hvNext_mem hrow, hgo3, hout2, hfin, hS9, hB2⟩, rfl⟩)
            case measure => simp [intOf]; omega
    · obtain rfl : t = c.b + 1 := by omega
      have dt : decide (((c.b + 1 : Nat) : Int) < (c.b : Int) + 1) = false := by rw [decide_eq_false_iff_not]; omega
      have HG : Hid (hvGo told least budget (c.b + 1) 0 [(c.b, 0)] [] = some out) := Lib.hid (by rw [← hgo, show c.b + 1 - (c.b + 1) = 0 by omega]; rfl)
      have HO := Lib.hid hS.oo
      clear hgo hrow hS
      go_wp2_with fail
      go_ret2
      refine ⟨fun l h => ?_, fun h => ?_, hB⟩
      · rw [HG.out] at h; cases h
        exact ⟨_, by simp, HO.out⟩
      · rw [HG.out] at h; cases h
end Go.Proofs.YtbhppbeepmllaaaGreatDoor

namespace Go.Proofs.YtbhppbeepmllaaaGreatDoor
open Go.RowKit Go.Shelf
attribute [local go_sem] Oper.semAt_some

abbrev PcIn (c : Cfg) := { p : Pc // p.1 ≤ c.b ∧ p.2 < c.keys p.1 }
def pcEnc (c : Cfg) (x : PcIn c) : Array Value := #[.agg #[.int .i64 x.1.1, .int .u64 x.1.2]]
theorem take_snocP {α : Type} {l : List α} {k : Nat} (h : k < l.length) : l.take (k + 1) = l.take k ++ [l[k]] := by
 rw [List.take_succ_eq_append_getElem h]
theorem vals_in (F : Fence) (n : Nat) (hf : F.fn 226) (hro : F.round = none) (hn : 1 ≤ n) (l bs g cap : Nat) (c : Cfg) (xs : List (PcIn c)) (hx : xs.length ≤ 1000000) (Fr : Nat → Prop) (J Jx : List (PcIn c) → World → Prop)
  (hFs : ¬ Fr bs) (hFg : ¬ Fr g) (W : World) (hJ : AbidesFrom W.heap.size J)
  (hY : ∀ pre x W, J pre W → pre.length < xs.length → YieldAt F (n - 1) Tryz.prog l (pcEnc c x) W fun e W' =>
   (e = .returned (.bool true) ∧ J (pre ++ [x]) W' ∧ Upd Fr W W') ∨ (e = .returned (.bool false) ∧ Jx (pre ++ [x]) W'))
  (hs : W.heap[bs]? = some (.cells #[.slice (some ⟨g, 0, none⟩) xs.length cap] 62 (0, 0))) (hrow : W.ownsRow 0 55 2 (.slice (some ⟨g, 0, none⟩) xs.length cap) xs.length (pcs (xs.map fun x => x.1))) (h0 : J [] W) :
  CallsIn F n Tryz.prog 226 #[.func (.yield l) #[] #[], .pointer (some ⟨bs, 0, none⟩)] W fun e W' => (∃ v, e = .returned v) ∧
   ((∃ ys, ys = xs ∧ J ys W') ∨ (∃ pre, pre <+: xs ∧ Jx pre W')) := by
 have q0 : W.cell? ⟨bs, 0, none⟩ = some (.slice (some ⟨g, 0, none⟩) xs.length cap) := cell_of_heap hs 0 _ rfl
 have lg := ints_lt2 hrow
 refine callsIn_of_wp Tryz.func226 rfl hf ?_ hro
 simp only [Tryz.ntmps226, List.size_toArray, List.length_cons, List.length_nil, Nat.reduceAdd, Nat.reduceSub, Array.replicate_succ, Array.replicate_zero, List.push_toArray, List.append_toArray, List.nil_append, List.cons_append]
 gi_wp2
 gi_loopw [7] (fun i wr => ∃ k : Nat, k ≤ xs.length ∧ i = .int .i64 k ∧ J (xs.take k) wr ∧ Upd Fr W wr) (fun i _ => xs.length - (intOf i).toNat)
 case atStart => exact ⟨0, Nat.zero_le _, rfl, by simpa using h0, Upd.refl _ _⟩
 case round =>
  obtain ⟨k, hk2, rfl, hJs, hU⟩ := hrel
  by_cases hlt : k < xs.length
  ·have hts := take_snocP hlt
   obtain ⟨x, hxk⟩ : ∃ x, xs[k] = x := ⟨_, rfl⟩
   rw [hxk] at hts
   have hm : (xs.map fun x => x.1)[k]? = some x.1 := by rw [List.getElem?_map, List.getElem?_eq_getElem hlt, hxk]; rfl
   obtain ⟨a1, a2⟩ := pcs_at _ _ _ hm
   have c1 := (hrow.cellAt (k * 2) (by omega)).trans a1
   have c2 := (hrow.cellAt (k * 2 + 1) (by omega)).trans a2
   have hJa : J (xs.take k) (wr.alloc (.cells #[.int .i64 x.1.1, .int .u64 x.1.2] 55)) := hJ _ wr _ none hJs (World.grownBy_alloc wr _ none) (fun r e => by cases e)
   obtain ⟨fn, tmps, assign, body, hy, hR⟩ := hY _ x (wr.alloc (.cells #[.int .i64 x.1.1, .int .u64 x.1.2] 55)) hJa (by simp; omega)
   unfold pcEnc at hy
   obtain ⟨⟨p1, p2⟩, hpx⟩ := x
   dsimp only at c1 c2 hy hR
   have hc1 : wr.cell? ⟨g, k * 2, none⟩ = some (.int .i64 p1) := by
    rw [World.cell?_of_block (w := W) (hU.block g lg hFg)]; exact c1
   have hc2 : wr.cell? ⟨g, k * 2 + 1, none⟩ = some (.int .u64 p2) := by
    rw [World.cell?_of_block (w := W) (hU.block g lg hFg)]; exact c2
   have HT := Lib.hid hts
   clear c1 c2 a1 a2 hm hts hxk
   gi_wp2
   refine hR.mono ?_
   rintro e W3 (⟨rfl, hJ3, hk3⟩ | ⟨rfl, hJx3⟩)
   ·gi_wp2
    go_roundw
    case rel => exact ⟨k + 1, by omega, by simp, by rw [HT.out]; exact hJ3, (hU.trans (Upd.of_below ((Below.refl _ _).alloc (Nat.le_refl _) _))).trans hk3⟩
    case measure => simp [intOf]; omega
   ·gi_wp2
    refine bodyPost_ret (results_none rfl _ _ _) rfl ?_
    exact ⟨⟨_, rfl⟩, .inr ⟨_, by rw [← HT.out]; exact List.take_prefix _ _, hJx3⟩⟩
  ·obtain rfl : k = xs.length := by omega
   gi_wp2
   go_end0
   exact ⟨⟨_, rfl⟩, .inl ⟨_, rfl, by simpa using hJs⟩⟩

theorem spanPt_any (st lb lcap bx : Nat) (vs : Nat → Lv) (c : Cfg) (cs : Nat → List Int) (w : World) (S : StackOk w st lb lcap vs c cs) (R : c.Ok) (l key : Nat) (hl : l ≤ c.b) (hk : key < c.keys l) (hx : w.heap[bx]? = some (.cells #[.pointer (some ⟨st, 0, none⟩)] 41 (0, 0))) :
  Calls Tryz.prog 193 #[.agg #[.int .i64 l, .int .u64 key], .pointer (some ⟨bx, 0, none⟩)] w fun e w' => e = .returned (.int .i64 (c.lvTold l key (cs l))) ∧ Below w.heap.size w w' := by
 have hb0 : Below w.heap.size w (w.alloc (.cells #[.int .i64 l, .int .u64 key] 55)) := (Below.refl _ _).alloc (Nat.le_refl _) _
 have q0 : w.cell? ⟨bx, 0, none⟩ = some (.pointer (some ⟨st, 0, none⟩)) := cell_of_heap hx 0 _ rfl
 have lx := lt_of_block hx
 have HP := Lib.hid (stPoint_any st lb lcap vs c cs _ (S.below hb0) R l key hl hk)
 generalize hv : c.lvTold l key (cs l) = v at HP
 have HV := Lib.hid hv
 clear hv hl hk
 go_enter Tryz.func193, Tryz.ntmps193
 go_wp2_with fail
 refine HP.out.mono ?_
 rintro e w1 ⟨rfl, hb⟩
 go_wp2
 go_ret
 exact ⟨by simp [HV.out], below_alloc hb⟩
end Go.Proofs.YtbhppbeepmllaaaGreatDoor

namespace Go.Proofs.YtbhppbeepmllaaaGreatDoor
open Go.RowKit

def lessS (x : Nat) (K : List Nat) (F : List Int) : Int := sumIf (fun k => decide (k < x)) K F
theorem div_is (k l idx : Nat) : k / 2 ^ l = idx ↔ idx * 2 ^ l ≤ k ∧ k < (idx + 1) * 2 ^ l := by
 have hp : 0 < 2 ^ l := Nat.two_pow_pos l
 have h1 := Nat.le_div_iff_mul_le (x := idx) (y := k) hp
 have h2 := Nat.div_lt_iff_lt_mul (x := k) (y := idx + 1) hp
 constructor
 ·intro h
  exact ⟨h1.1 (by omega), h2.1 (by omega)⟩
 ·rintro ⟨a, b⟩
  have := h1.2 a
  have := h2.2 b
  omega
theorem less_mass (l idx : Nat) (K : List Nat) (F : List Int) : lessS ((idx + 1) * 2 ^ l) K F = lessS (idx * 2 ^ l) K F + massI l idx K F := by
 unfold lessS massI
 have hle : idx * 2 ^ l ≤ (idx + 1) * 2 ^ l := Nat.mul_le_mul_right _ (by omega)
 rw [sumIf_split (fun k => decide (k < (idx + 1) * 2 ^ l)) (fun k => decide (k < idx * 2 ^ l)) K F (by intro k _ h; simp at h ⊢; omega)]
 congr 1
 refine sumIf_congr K F (fun k _ => ?_)
 have := div_is k l idx
 rw [Bool.eq_iff_iff]
 simp only [Bool.and_eq_true, decide_eq_true_eq, Bool.not_eq_true', decide_eq_false_iff_not, beq_iff_eq, this]
 omega
def overI (told : Nat → Nat → Int) (K : List Nat) (F : List Int) : Nat → Nat → Int
 | 0, _ => 0
 | L + 1, r => overI told K F L r + (told L (r / 2 ^ (L + 1) * 2) - massI L (r / 2 ^ (L + 1) * 2) K F)
theorem way_law (told : Nat → Nat → Int) (K : List Nat) (F : List Int) (b : Nat) (hm : ∀ l idx, l ≤ b → idx < 2 ^ (b - l) → massI l idx K F ≤ told l idx) :
  ∀ (L i : Nat) (k c O : Int), L ≤ b → i < 2 ^ (b - L) → 1 ≤ k → lessS (i * 2 ^ L) K F ≤ c → k + c ≤ lessS ((i + 1) * 2 ^ L) K F + O → c ≤ lessS (i * 2 ^ L) K F + O →
   wayI told L i k / 2 ^ L = i ∧ lessS (wayI told L i k) K F < k + c ∧ k + c ≤ lessS (wayI told L i k + 1) K F + (O + overI told K F L (wayI told L i k))
 | 0, i, k, c, O, hL, hi, h1, h2, h3, h4 => by
  simp only [wayI, overI, Nat.pow_zero, Nat.div_one, Nat.mul_one] at *
  exact ⟨trivial, by omega, by omega⟩
 | L + 1, i, k, c, O, hL, hi, h1, h2, h3, h4 => by
  have e1 : i * 2 ^ (L + 1) = (2 * i) * 2 ^ L := by rw [Nat.pow_succ, Nat.mul_comm (2 ^ L) 2, ← Nat.mul_assoc, Nat.mul_comm i 2]
  have e2 : (i + 1) * 2 ^ (L + 1) = (2 * i + 1 + 1) * 2 ^ L := by rw [Nat.pow_succ, Nat.mul_comm (2 ^ L) 2, ← Nat.mul_assoc, Nat.mul_comm (i + 1) 2]; rfl
  rw [e1] at h2 h4
  rw [e2] at h3
  have m1 := less_mass L (2 * i) K F
  have hpw : 2 ^ (b - L) = 2 * 2 ^ (b - (L + 1)) := by rw [show b - L = (b - (L + 1)) + 1 by omega, Nat.pow_succ, Nat.mul_comm]
  have hml := hm L (2 * i) (by omega) (by omega)
  unfold wayI
  split
  ·rename_i hk
   obtain ⟨r1, r2, r3⟩ := way_law told K F b hm L (2 * i) k c (O + (told L (2 * i) - massI L (2 * i) K F)) (by omega) (by omega) h1 h2 (by omega) (by omega)
   have hr : wayI told L (2 * i) k / 2 ^ (L + 1) = i := by rw [Nat.pow_succ, ← Nat.div_div_eq_div_mul, r1]; omega
   refine ⟨hr, r2, ?_⟩
   simp only [overI, hr, Nat.mul_comm i 2]
   omega
  ·rename_i hk
   obtain ⟨r1, r2, r3⟩ := way_law told K F b hm L (2 * i + 1) (k - told L (2 * i)) (c + told L (2 * i)) (O + (told L (2 * i) - massI L (2 * i) K F)) (by omega) (by omega) (by omega) (by omega) (by omega) (by omega)
   have hr : wayI told L (2 * i + 1) (k - told L (2 * i)) / 2 ^ (L + 1) = i := by rw [Nat.pow_succ, ← Nat.div_div_eq_div_mul, r1]; omega
   refine ⟨hr, by omega, ?_⟩
   simp only [overI, hr, Nat.mul_comm i 2]
   omega
theorem lessS_zero (K : List Nat) (F : List Int) : lessS 0 K F = 0 := by
 unfold lessS
 have : ∀ (K : List Nat) (F : List Int), sumIf (fun k => decide (k < 0)) K F = 0 := by
  intro K
  induction K with
  | nil => intro F; cases F <;> simp [sumIf]
  | cons a K ih =>
   intro F
   cases F with
   | nil => simp [sumIf]
   | cons f F => simp [sumIf] at ih ⊢; exact ih F
 exact this K F
theorem quant_law (told : Nat → Nat → Int) (K : List Nat) (F : List Int) (b : Nat) (k : Int) (hm : ∀ l idx, l ≤ b → idx < 2 ^ (b - l) → massI l idx K F ≤ told l idx) (h1 : 1 ≤ k) (h2 : k ≤ massI b 0 K F) :
  wayI told b 0 k < 2 ^ b ∧ lessS (wayI told b 0 k) K F < k ∧ k ≤ lessS (wayI told b 0 k + 1) K F + overI told K F b (wayI told b 0 k) := by
 have m := less_mass b 0 K F
 rw [Nat.zero_mul, lessS_zero] at m
 obtain ⟨r1, r2, r3⟩ := way_law told K F b hm b 0 k 0 0 (Nat.le_refl _) (Nat.two_pow_pos _) h1 (by rw [Nat.zero_mul, lessS_zero]; omega) (by omega) (by rw [Nat.zero_mul, lessS_zero]; omega)
 have := (div_is (wayI told b 0 k) b 0).1 r1
 exact ⟨by omega, by omega, by omega⟩
end Go.Proofs.YtbhppbeepmllaaaGreatDoor

namespace Go.Proofs.YtbhppbeepmllaaaGreatDoor
open Go.RowKit
variable {F : Fence} {n : Nat} {P : Program}

def SeqStopsB {α : Type} (bs : Nat) (F : Fence) (n : Nat) (P : Program) (g : Nat) (lb : Array Value) (encs : α → Array Value) (Kp : World → World → Prop) (S Sp Sn : List α → Prop) (w : World) : Prop :=
 ∀ (l : Nat) (J Jx : List α → World → Prop) (W : World), Below w.heap.size w W → AbidesFrom W.heap.size J → AbidesFrom W.heap.size Jx →
  (∀ s A v, J s A → J s (A.setCell ⟨bs, 0, none⟩ v)) → (∀ s A v, Jx s A → Jx s (A.setCell ⟨bs, 0, none⟩ v)) →
  (∀ pre x W1, J pre W1 → Sn (pre ++ [x]) → YieldAt F (n - 1) P l (encs x) W1 fun e W' =>
   (e = .returned (.bool true) ∧ J (pre ++ [x]) W' ∧ Kp W1 W') ∨ (e = .returned (.bool false) ∧ Jx (pre ++ [x]) W')) →
  J [] W →
  CallsIn F n P g (#[.func (.yield l) #[] #[]] ++ lb) W fun e W' => (∃ v, e = .returned v) ∧ ((∃ xs, S xs ∧ J xs W') ∨ (∃ pre, Sp pre ∧ Jx pre W'))
theorem wpIn_rangeFunc_B {α : Type} {g : Operand} {ps : Array Tmp} {assign body : Code} {Q : Exit → Act → World → Prop} {a : Act} {w : World}
  (hro : F.round = none) (h1 : 1 ≤ n) {gf : Nat} {lb : Array Value} (hg : a.eval g = .func (.func gf) #[] lb) (hFg : F.fn gf) (eg : ∀ args w, (callFunc gf args).run P w = .ok (.enter gf args) w)
  {encs : α → Array Value} {Kp : World → World → Prop} {S Sp Sn : List α → Prop} {w0 : World} {bs : Nat} (hbs : bs < w.heap.size) (hseq : SeqStopsB bs F (n - 1) P gf lb encs Kp S Sp Sn w0)
  (hKt : ∀ {A B C : World}, Kp A B → Kp B C → Kp A C) (hKb : ∀ (W : World) (l : Nat) (o o' : Obj), w.heap.size ≤ l → W.heap[l]? = some o → o.isCells = false → o.isWalk = false → Kp W (W.putObj l o')) (hb0 : Below w0.heap.size w0 w) (hps : ∀ x, (encs x).size = ps.size)
  (I : List α → World → Prop) (Ix : Code → List α → World → Prop) (hIb : ∀ pre A v, I pre A → I pre (A.setCell ⟨bs, 0, none⟩ v)) (hIxb : ∀ c pre A v, Ix c pre A → Ix c pre (A.setCell ⟨bs, 0, none⟩ v)) (hI : OwnFrom w.heap.size I) (hIx : ∀ c, OwnFrom w.heap.size (Ix c)) (h0 : I [] w) (Ax : α → Act → World → Prop) (hAx : ∀ x a', OwnFrom w.heap.size (fun (_ : Unit) W => Ax x a' W))
  (hassign : ∀ (l : Nat) (pre : List α) (x : α) (W : World) (K : Act → World → Prop), I pre W → (∀ a' W', KeepsFrom w.heap.size W W' → Kp W W' → I pre W' → Ax x a' W' → K a' W') →
   assign.wpIn (F.inRound l) (n - 1 - 1) P (Exit.then K (fun _ _ _ => False)) { tmps := (ps.zip (encs x)).foldl (fun t (p, v) => t.setIfInBounds p v) a.tmps, defers := [] } W)
  (hbody : ∀ (l : Nat) (pre : List α) (x : α) (a' : Act) (W : World), w.heap.size ≤ l → (∃ r, W.heap[l]? = some (.loop r)) → I pre W → Ax x a' W → Sn (pre ++ [x]) → body.wpIn (F.inRound l) (n - 1 - 1) P (ownPostG w.heap.size Kp I Ix (pre ++ [x]) W) a' W)
  (hdone : ∀ (D : Nat) (xs : List α) (W : World), w.heap.size ≤ D → S xs → I xs W → W.heap[D]? = some (.deferred (some [])) → Q .normal { a with defers := { target := .collected D, args := #[] } :: a.defers } W)
  (hstop : ∀ (D : Nat) (c : Code) (pre : List α) (W : World), w.heap.size ≤ D → Sp pre → Ix c pre W → W.heap[D]? = some (.deferred (some [])) → c.wpIn F n P Q { a with defers := { target := .collected D, args := #[] } :: a.defers } W) :
  (Code.rangeFunc g ps assign body).wpIn F n P Q a w := by
 refine wpIn_rangeFunc ?_
 intro fn hfn
 rw [hro]
 obtain ⟨rec, hrec⟩ : ∃ rec : LoopState → Option Code → Loop, rec = fun st pe => { state := st, pending := pe, fn, tmps := a.tmps, params := ps, assign, body, defers := w.heap.size } := ⟨_, rfl⟩
 obtain ⟨W1, hW1⟩ : ∃ W1, (w.alloc (.deferred (some []))).alloc (.loop (rec .ready none)) = W1 := ⟨_, rfl⟩
 have hL1 : W1.heap[w.heap.size + 1]? = some (.loop (rec .ready none)) := by
  rw [← hW1]; have := World.alloc_heap_new (w.alloc (.deferred (some []))) (.loop (rec .ready none)); rwa [World.size_alloc] at this
 have hK1 : W1.heap[w.heap.size]? = some (.deferred (some [])) := by
  rw [← hW1]; exact (Below.heap_alloc _ _ _ (by simp)).trans (World.alloc_heap_new w _)
 have hI1 : I [] W1 := by rw [← hW1]; exact hI.alloc _ (hI.alloc _ h0)
 have hb1 : Below w0.heap.size w0 W1 := by
  rw [← hW1]; exact hb0.trans ((((Below.refl _ w).alloc (Nat.le_refl _) _).alloc (by simp) _).mono hb0.size)
 refine ⟨w.heap.size + 1, [{ target := .collected w.heap.size, args := #[] }], W1, { target := .fn (.func gf) lb, args := #[.func (.yield (w.heap.size + 1)) #[] #[]] }, W1, gf,
  #[.func (.yield (w.heap.size + 1)) #[] #[]] ++ lb, W1, ?_, ?_, ?_, ?_, fun _ => h1, ?_⟩
 ·rw [← hW1, hrec]; exact run_enterLoop_outer _ _ _ _ _
 ·simp only [resolve, hg]
  simp [go_sem]
 ·intro f' hf'; simp [Target.leads] at hf'; subst hf'; exact hFg
 ·simp [invoke, go_sem, eg]
 ·skip
  have hnw : ∀ {A B : World} {row : Option Nat}, (∀ r, row = some r → W1.heap.size ≤ r ∧ ∃ o : Obj, A.heap[r]? = some o ∧ o.isWalk = true) → (∀ r, row = some r → w.heap.size ≤ r ∧ ∃ o : Obj, A.heap[r]? = some o ∧ o.isCells = false) :=
   fun hr r e => by obtain ⟨hB, o, ho, hw⟩ := hr r e; exact ⟨by rw [← hW1] at hB; simp at hB; omega, o, ho, Obj.not_cells_of_walk hw⟩
  refine (hseq (w.heap.size + 1)
   (fun pre W => I pre W ∧ W.heap[w.heap.size + 1]? = some (.loop (rec .ready none)) ∧ W.heap[w.heap.size]? = some (.deferred (some [])))
   (fun pre W => ∃ c, Ix c pre W ∧ W.heap[w.heap.size + 1]? = some (.loop (rec .done (some c))) ∧ W.heap[w.heap.size]? = some (.deferred (some [])))
   W1 hb1
   (fun s A B row hs hg' hr => ⟨hI s A B row hs.1 hg' (hnw (B := B) hr), (grownBy_keeps hg' (fun r e => (hr r e).2) hs.2.1 rfl).trans hs.2.1, (grownBy_keeps hg' (fun r e => (hr r e).2) hs.2.2 rfl).trans hs.2.2⟩)
   (fun s A B row hs hg' hr => by
    obtain ⟨c, hc, hl, hk⟩ := hs
    exact ⟨c, hIx c s A B row hc hg' (hnw (B := B) hr), (grownBy_keeps hg' (fun r e => (hr r e).2) hl rfl).trans hl, (grownBy_keeps hg' (fun r e => (hr r e).2) hk rfl).trans hk⟩)
   (fun s A v hs => ⟨hIb s A v hs.1, (Below.heap_setCell _ _ _ _ (by dsimp only; omega)).trans hs.2.1, (Below.heap_setCell _ _ _ _ (by dsimp only; omega)).trans hs.2.2⟩)
   (fun s A v hs => by
    obtain ⟨c, hc, hl, hk⟩ := hs
    exact ⟨c, hIxb c s A v hc, (Below.heap_setCell _ _ _ _ (by dsimp only; omega)).trans hl, (Below.heap_setCell _ _ _ _ (by dsimp only; omega)).trans hk⟩)
   ?_ ⟨hI1, hL1, hK1⟩).mono ?_
  ·skip
   rintro pre x W ⟨hi, hl, hk⟩ hlen
   have hlt : w.heap.size + 1 < W.heap.size := (Array.getElem?_eq_some_iff.1 hl).1
   have hy := run_yield (P := P) (args := encs x) hl (by rw [hrec]; exact hps x)
   rw [hrec] at hy
   refine ⟨fn, _, assign, body, hy, roundIn_of_wpIn hfn (hassign _ pre x W _ hi ?_)⟩
   clear hy
   intro a' Wa hkfa hkpa hia hax
   replace hl := hkfa.same _ _ (by omega) hl rfl
   replace hk := hkfa.same _ _ (Nat.le_refl _) hk rfl
   replace hlt : w.heap.size + 1 < Wa.heap.size := (Array.getElem?_eq_some_iff.1 hl).1
   replace hi := hia
   clear hia
   revert hkpa hkfa
   generalize W = Wb
   intro hkfa hkpa
   obtain ⟨W, rfl⟩ : ∃ W, W = Wa := ⟨_, rfl⟩
   refine ⟨_, run_beginRound hl (by rw [hrec]), ?_⟩
   have hl2 : (W.putObj (w.heap.size + 1) (.loop { rec .ready none with state := .busy })).heap[w.heap.size + 1]? = some (.loop { rec .ready none with state := .busy }) := World.putObj_heap_same hlt
   have hk2 : (W.putObj (w.heap.size + 1) (.loop { rec .ready none with state := .busy })).heap[w.heap.size]? = some (.deferred (some [])) := (World.putObj_heap_other (by omega)).trans hk
   have hw2 : Kp W (W.putObj (w.heap.size + 1) (.loop { rec .ready none with state := .busy })) := hKb _ _ _ _ (by omega) hl rfl rfl
   refine wpIn_mono (hbody _ pre x a' _ (by omega) ⟨_, hl2⟩ (hI.putObj _ hi (by omega) hl rfl) ((hAx x a').putObj (s := ()) _ hax (by omega) hl rfl) hlen) ?_
   have fin : ∀ (jump : Option Code) (W3 : World), KeepsFrom w.heap.size (W.putObj (w.heap.size + 1) (.loop { rec .ready none with state := .busy })) W3 →
     (Instr.endRound (w.heap.size + 1) jump).run P W3 = .ok (.bool jump.isNone) (W3.putObj (w.heap.size + 1) (.loop (rec (if jump.isNone then .ready else .done) jump))) ∧
     W3.heap[w.heap.size + 1]? = some (.loop { rec .ready none with state := .busy }) ∧
     (W3.putObj (w.heap.size + 1) (.loop (rec (if jump.isNone then .ready else .done) jump))).heap[w.heap.size + 1]? = some (.loop (rec (if jump.isNone then .ready else .done) jump)) ∧
     (W3.putObj (w.heap.size + 1) (.loop (rec (if jump.isNone then .ready else .done) jump))).heap[w.heap.size]? = some (.deferred (some [])) := fun jump W3 hk3 => by
    have hl3 := hk3.same _ _ (by omega) hl2 rfl
    have := run_endRound (P := P) jump hl3
    rw [hrec] at this ⊢
    exact ⟨this, by rw [hrec] at hl3; exact hl3, World.putObj_heap_same (Array.getElem?_eq_some_iff.1 hl3).1, (World.putObj_heap_other (by omega)).trans (hk3.same _ _ (Nat.le_refl _) hk2 rfl)⟩
   rintro e a3 W3 hp
   cases e with
   | normal =>
    obtain ⟨hk3, hkp3, hi3⟩ := hp
    obtain ⟨hr, hl3, hl4, hk4⟩ := fin none W3 hk3
    exact ⟨_, _, hr, .inl ⟨rfl, ⟨hI.putObj _ hi3 (by omega) hl3 rfl, hl4, hk4⟩, hKt hkpa (hKt (hKt hw2 hkp3) (hKb _ _ _ _ (by omega) hl3 rfl rfl))⟩⟩
   | ret =>
    obtain ⟨hk3, hi3⟩ := hp
    obtain ⟨hr, hl3, hl4, hk4⟩ := fin (some .ret) W3 hk3
    exact ⟨_, _, hr, .inr ⟨rfl, .ret, (hIx _).putObj _ hi3 (by omega) hl3 rfl, hl4, hk4⟩⟩
   | exit id =>
    obtain ⟨hk3, hi3⟩ := hp
    obtain ⟨hr, hl3, hl4, hk4⟩ := fin (some (.exit id)) W3 hk3
    exact ⟨_, _, hr, .inr ⟨rfl, .exit id, (hIx _).putObj _ hi3 (by omega) hl3 rfl, hl4, hk4⟩⟩
   | goto t =>
    obtain ⟨hk3, hi3⟩ := hp
    obtain ⟨hr, hl3, hl4, hk4⟩ := fin (some (.goto t)) W3 hk3
    exact ⟨_, _, hr, .inr ⟨rfl, .goto t, (hIx _).putObj _ hi3 (by omega) hl3 rfl, hl4, hk4⟩⟩
   | panic ch => exact hp.elim
   | outgrown => exact hp.elim
  ·skip
   rintro e W2 ⟨⟨v, rfl⟩, (⟨xs, hS, hi, hl, hk⟩ | ⟨pre, hSp, c, hi, hl, hk⟩)⟩
   ·exact ⟨none, _, by have := run_endLoop (P := P) hl (by rw [hrec]; simp); rw [hrec] at this; exact this, hdone _ xs _ (Nat.le_refl _) hS (hI.putObj _ hi (by omega) hl rfl) ((World.putObj_heap_other (by omega)).trans hk)⟩
   ·exact ⟨some c, _, by have := run_endLoop (P := P) hl (by rw [hrec]; simp); rw [hrec] at this; exact this, hstop _ c pre _ (Nat.le_refl _) hSp ((hIx c).putObj _ hi (by omega) hl rfl) ((World.putObj_heap_other (by omega)).trans hk)⟩

end Go.Proofs.YtbhppbeepmllaaaGreatDoor

namespace Go.Proofs.YtbhppbeepmllaaaGreatDoor
open Go.RowKit

def pcAfter (p q : Pc) : Prop := q.1 < p.1 ∨ q.1 = p.1 ∧ p.2 < q.2
structure HvInv (G : Prop) (told : Nat → Nat → Int) (least : Int) (b : Nat) (K : List Nat) (F : List Int) (n : Nat) (row : List Pc) (out : List Fd) : Prop where
 row_lv : ∀ p ∈ row, p.1 + 1 = n ∧ p.1 ≤ b ∧ p.2 < 2 ^ (b - p.1)
 row_up : row.Pairwise (fun p q => p.2 < q.2)
 row_par : ∀ p ∈ row, p.1 < b → ∃ m, ((p.1 + 1, p.2 / 2), m) ∈ out
 row_all : G → n ≤ b + 1 → 0 < n → ∀ idx, least ≤ massI (n - 1) idx K F → idx < 2 ^ (b - (n - 1)) → (n - 1, idx) ∈ row
 told_is : ∀ f ∈ out, f.2 = told f.1.1 f.1.2 ∧ least ≤ f.2 ∧ n ≤ f.1.1 ∧ f.1.1 ≤ b ∧ f.1.2 < 2 ^ (b - f.1.1)
 sorted : out.Pairwise (fun f g => pcAfter f.1 g.1)
 par : ∀ (i : Nat) (f : Fd), out[i]? = some f → f.1.1 < b → ∃ (j : Nat) (g : Fd), j < i ∧ out[j]? = some g ∧ g.1 = (f.1.1 + 1, f.1.2 / 2)
 all : G → ∀ l idx, n ≤ l → l ≤ b → idx < 2 ^ (b - l) → least ≤ massI l idx K F → ∃ m, ((l, idx), m) ∈ out
theorem mass_mono {l idx : Nat} (K : List Nat) : ∀ (F : List Int), (∀ f ∈ F, 0 ≤ f) → massI l idx K F ≤ massI (l + 1) (idx / 2) K F := by
 intro F hF
 unfold massI
 have := sumIf_split (fun k => k / 2 ^ (l + 1) == idx / 2) (fun k => k / 2 ^ l == idx) K F (by
  intro k _ h
  simp only [beq_iff_eq] at h ⊢
  rw [Nat.pow_succ, ← Nat.div_div_eq_div_mul, h])
 have h2 := sumIf_nonneg (fun k => (k / 2 ^ (l + 1) == idx / 2) && !(k / 2 ^ l == idx)) K F hF
 omega
theorem keep_mem {told : Nat → Nat → Int} {least : Int} {row : List Pc} {f : Fd} (h : f ∈ hvKeep told least row) : f.1 ∈ row ∧ f.2 = told f.1.1 f.1.2 ∧ least ≤ f.2 := by
 unfold hvKeep at h
 simp only [List.mem_map, List.mem_filter, decide_eq_true_eq] at h
 obtain ⟨p, ⟨h1, h2⟩, rfl⟩ := h
 exact ⟨h1, rfl, h2⟩
theorem keep_of {told : Nat → Nat → Int} {least : Int} {row : List Pc} {p : Pc} (h1 : p ∈ row) (h2 : least ≤ told p.1 p.2) : (p, told p.1 p.2) ∈ hvKeep told least row := by
 unfold hvKeep
 simp only [List.mem_map, List.mem_filter, decide_eq_true_eq]
 exact ⟨p, ⟨h1, h2⟩, rfl⟩
theorem next_mem {told : Nat → Nat → Int} {least : Int} {row : List Pc} {q : Pc} (h : q ∈ hvNext told least row) : ∃ p ∈ row, least ≤ told p.1 p.2 ∧ p.1 = q.1 + 1 ∧ q.2 / 2 = p.2 := by
 unfold hvNext at h
 simp only [List.mem_flatMap, List.mem_filter, decide_eq_true_eq] at h
 obtain ⟨p, ⟨h1, h2⟩, h3⟩ := h
 split at h3
 ·simp at h3
 ·simp only [List.mem_cons, List.not_mem_nil, or_false] at h3
  rcases h3 with rfl | rfl
  ·exact ⟨p, h1, h2, by dsimp only; omega, by dsimp only; omega⟩
  ·exact ⟨p, h1, h2, by dsimp only; omega, by dsimp only; omega⟩
theorem next_of {told : Nat → Nat → Int} {least : Int} {row : List Pc} {p q : Pc} (h1 : p ∈ row) (h2 : least ≤ told p.1 p.2) (h3 : p.1 = q.1 + 1) (h4 : q.2 / 2 = p.2) : q ∈ hvNext told least row := by
 unfold hvNext
 simp only [List.mem_flatMap, List.mem_filter, decide_eq_true_eq]
 refine ⟨p, ⟨h1, h2⟩, ?_⟩
 rw [if_neg (by omega)]
 simp only [List.mem_cons, List.not_mem_nil, or_false]
 obtain ⟨a, b⟩ := q
 dsimp only at h3 h4
 rcases Nat.mod_two_eq_zero_or_one b with h | h
 ·left; exact Prod.ext (by dsimp only; omega) (by dsimp only; omega)
 ·right; exact Prod.ext (by dsimp only; omega) (by dsimp only; omega)
theorem next_up {told : Nat → Nat → Int} {least : Int} : ∀ {row : List Pc}, row.Pairwise (fun p q => p.2 < q.2) → (hvNext told least row).Pairwise (fun p q => p.2 < q.2)
 | [], _ => by simp [hvNext]
 | p :: row, h => by
  have ih := next_up (told := told) (least := least) h.of_cons
  have hp : ∀ {q : Pc}, q ∈ row → p.2 < q.2 := fun hq => List.rel_of_pairwise_cons h hq
  have hc : hvNext told least (p :: row) = (if least ≤ told p.1 p.2 then (if p.1 = 0 then ([] : List Pc) else [(p.1 - 1, 2 * p.2), (p.1 - 1, 2 * p.2 + 1)]) else []) ++ hvNext told least row := by
   unfold hvNext
   rw [List.filter_cons]
   by_cases h : least ≤ told p.1 p.2
   ·simp [h]
   ·simp [h]
  rw [hc, List.pairwise_append]
  refine ⟨?_, ih, ?_⟩
  ·split
   ·split
    ·exact List.Pairwise.nil
    ·refine List.Pairwise.cons ?_ (List.pairwise_singleton _ _)
     intro q hq; simp at hq; subst hq; dsimp only; omega
   ·exact List.Pairwise.nil
  ·intro a ha b hb
   obtain ⟨q, hq, _, _, e4⟩ := next_mem hb
   have hlt := hp hq
   have ha2 : a.2 ≤ 2 * p.2 + 1 := by
    split at ha
    ·split at ha
     ·simp at ha
     ·simp at ha; rcases ha with rfl | rfl
      ·dsimp only; omega
      ·dsimp only; omega
    ·simp at ha
   omega
theorem HvInv.step {G : Prop} {told : Nat → Nat → Int} {least : Int} {b n : Nat} {K : List Nat} {F : List Int} {row : List Pc} {out : List Fd} (V : HvInv G told least b K F (n + 1) row out)
  (hG : G → (∀ f ∈ F, 0 ≤ f) ∧ ∀ l idx, l ≤ b → idx < 2 ^ (b - l) → massI l idx K F ≤ told l idx) (hn : n ≤ b) : HvInv G told least b K F n (hvNext told least row) (out ++ hvKeep told least row) := by
 refine ⟨?_, next_up V.row_up, ?_, ?_, ?_, ?_, ?_, ?_⟩
 ·intro q hq
  obtain ⟨p, hp, _, h3, h4⟩ := next_mem hq
  obtain ⟨a1, a2, a3⟩ := V.row_lv p hp
  refine ⟨by omega, by omega, ?_⟩
  rw [show b - q.1 = (b - p.1) + 1 by omega, Nat.pow_succ]; omega
 ·intro q hq hqb
  obtain ⟨p, hp, h2, h3, h4⟩ := next_mem hq
  refine ⟨told p.1 p.2, List.mem_append_right _ ?_⟩
  have := keep_of hp h2
  have e : ((q.1 + 1, q.2 / 2) : Pc) = p := Prod.ext h3.symm h4
  rw [e]; exact this
 ·intro g0 _ h0 idx h1 h2
  obtain ⟨hF, hm⟩ := hG g0
  obtain ⟨m, rfl⟩ : ∃ m, n = m + 1 := ⟨n - 1, by omega⟩
  rw [Nat.add_sub_cancel] at h1 h2 ⊢
  have hup := mass_mono (l := m) (idx := idx) K F hF
  have hpw : 2 ^ (b - m) = 2 * 2 ^ (b - (m + 1)) := by rw [show b - m = (b - (m + 1)) + 1 by omega, Nat.pow_succ, Nat.mul_comm]
  have hr := V.row_all g0 (by omega) (by omega) (idx / 2) (by rw [Nat.add_sub_cancel]; omega) (by rw [Nat.add_sub_cancel]; omega)
  rw [Nat.add_sub_cancel] at hr
  have := hm (m + 1) (idx / 2) (by omega) (by omega)
  exact next_of hr (by dsimp only; omega) rfl rfl
 ·intro f hf
  rcases List.mem_append.1 hf with hf | hf
  ·obtain ⟨a1, a2, a3, a4⟩ := V.told_is f hf
   exact ⟨a1, a2, by omega, a4⟩
  ·obtain ⟨a1, a2, a3⟩ := keep_mem hf
   obtain ⟨b1, b2, b3⟩ := V.row_lv f.1 a1
   exact ⟨a2, a3, by omega, b2, b3⟩
 ·rw [List.pairwise_append]
  refine ⟨V.sorted, ?_, ?_⟩
  ·unfold hvKeep
   rw [List.pairwise_map]
   have := (V.row_up.sublist (List.filter_sublist (p := fun p : Pc => decide (least ≤ told p.1 p.2)))).imp_of_mem (S := fun p q => pcAfter p q) (by
    intro p q hp hq h
    have h1 := (V.row_lv p (List.mem_filter.1 hp).1).1
    have h2 := (V.row_lv q (List.mem_filter.1 hq).1).1
    exact .inr ⟨by omega, h⟩)
   exact this
  ·intro f hf g hg
   have a1 := (V.told_is f hf).2.2.1
   have a2 := (V.row_lv g.1 (keep_mem hg).1).1
   exact .inl (by omega)
 ·intro i f hf hfb
  by_cases hi : i < out.length
  ·rw [List.getElem?_append_left hi] at hf
   obtain ⟨j, g, h1, h2, h3⟩ := V.par i f hf hfb
   exact ⟨j, g, h1, by rw [List.getElem?_append_left (by omega)]; exact h2, h3⟩
  ·rw [List.getElem?_append_right (by omega)] at hf
   have hk := keep_mem (List.mem_of_getElem? hf)
   obtain ⟨m, hm'⟩ := V.row_par f.1 hk.1 hfb
   obtain ⟨j, hj⟩ := List.mem_iff_getElem?.1 hm'
   have hjl : j < out.length := (List.getElem?_eq_some_iff.1 hj).1
   exact ⟨j, _, by omega, by rw [List.getElem?_append_left hjl]; exact hj, rfl⟩
 ·intro g0 l idx h1 h2 h3 h4
  obtain ⟨hF, hm⟩ := hG g0
  by_cases hl : n + 1 ≤ l
  ·obtain ⟨m, h⟩ := V.all g0 l idx hl h2 h3 h4
   exact ⟨m, List.mem_append_left _ h⟩
  ·obtain rfl : l = n := by omega
   have hr := V.row_all g0 (by omega) (by omega) idx (by rw [Nat.add_sub_cancel]; exact h4) (by rw [Nat.add_sub_cancel]; exact h3)
   rw [Nat.add_sub_cancel] at hr
   have := hm l idx h2 h3
   exact ⟨_, List.mem_append_right _ (keep_of hr (by dsimp only; omega))⟩
theorem hv_law (G : Prop) (told : Nat → Nat → Int) (least : Int) (budget b : Nat) (K : List Nat) (F : List Int) (hG : G → (∀ f ∈ F, 0 ≤ f) ∧ ∀ l idx, l ≤ b → idx < 2 ^ (b - l) → massI l idx K F ≤ told l idx) :
  ∀ (n asked : Nat) (row : List Pc) (out l : List Fd), n ≤ b + 1 → HvInv G told least b K F n row out → hvGo told least budget n asked row out = some l → ∃ row, HvInv G told least b K F 0 row l
 | 0, _, row, out, l, _, V, h => by
  simp only [hvGo, Option.some.injEq] at h
  subst h
  exact ⟨row, V⟩
 | n + 1, asked, row, out, l, hn, V, h => by
  unfold hvGo at h
  split at h
  ·cases h
  ·exact hv_law G told least budget b K F hG n _ _ _ l (by omega) (V.step hG (by omega)) h
theorem hv_start (G : Prop) (told : Nat → Nat → Int) (least : Int) (b : Nat) (K : List Nat) (F : List Int) : HvInv G told least b K F (b + 1) [(b, 0)] [] := by
 refine ⟨?_, List.pairwise_singleton _ _, ?_, ?_, by simp, List.Pairwise.nil, by simp, ?_⟩
 ·intro p hp; simp at hp; subst hp; exact ⟨rfl, Nat.le_refl _, Nat.two_pow_pos _⟩
 ·intro p hp hb; simp at hp; subst hp; simp at hb
 ·intro _ _ _ idx _ h
  rw [Nat.add_sub_cancel] at h ⊢
  simp at h
  simp [h]
 ·intro _ l idx h1 h2; omega
theorem heavy_law (G : Prop) (told : Nat → Nat → Int) (least : Int) (budget b : Nat) (K : List Nat) (F : List Int) (l : List Fd) (hG : G → (∀ f ∈ F, 0 ≤ f) ∧ ∀ l idx, l ≤ b → idx < 2 ^ (b - l) → massI l idx K F ≤ told l idx)
  (h : hvGo told least budget (b + 1) 0 [(b, 0)] [] = some l) : ∃ row, HvInv G told least b K F 0 row l := by
 exact hv_law G told least budget b K F hG (b + 1) 0 _ _ l (Nat.le_refl _) (hv_start G told least b K F) h
end Go.Proofs.YtbhppbeepmllaaaGreatDoor
