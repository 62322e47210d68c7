import Derived.Test.YtbhppbeepmllaaaGreatDoorMce0bf2f6
import Derived.Test.YtbhppbeepmllaaaGreatDoorM2bc178ab
import Derived.RangeFuncNested
import Derived.RangeFuncBound
import Derived.RangeFuncCalls
import Derived.RangeFuncLeaves
import Derived.Shelf.Abstract
import Derived.Shelf.RegionOpen
import Derived.OwnWalkIn
import Derived.TacticsInMore
import Derived.LoopNIn
import Derived.LoopIn
set_option linter.unusedVariables false
set_option linter.unusedSimpArgs false
set_option maxRecDepth 100000
set_option maxHeartbeats 4000000
namespace Go.Proofs.YtbhppbeepmllaaaGreatDoor
open Go.RowKit Go.Shelf
attribute [local go_sem] Oper.semAt_some

theorem first_eq (g cap : Nat) (a b r : Int) (w : World) (hr : firstI a b = r) (h0 : w.cell? ⟨g, 0, none⟩ = some (.int .i64 a)) (h1 : w.cell? ⟨g, 1, none⟩ = some (.int .i64 b)) :
    Calls Tryz.prog 154 #[.slice (some ⟨g, 0, none⟩) 2 cap] w fun e w' => e = .returned (.int .i64 r) ∧ w = w' := by
  rw [← hr]; exact first_any g cap a b w h0 h1
theorem lit2c (V : World) (x y : Value) (t : TypeId) : (V.alloc (.cells #[x, y] t)).cell? ⟨V.heap.size, 0, none⟩ = some x ∧ (V.alloc (.cells #[x, y] t)).cell? ⟨V.heap.size, 1, none⟩ = some y := by
  have h := heap_alloc_new V (.cells #[x, y] t)
  exact ⟨cell_of_heap h 0 _ rfl, cell_of_heap h 1 _ rfl⟩
def updPost (e0 : Int) (st lb lcap key : Nat) (vs : Nat → Lv) (c : Cfg) (cs : Nat → List Int) (d : Int) (w : World) (e : Ending) (w' : World) : Prop :=
  (e0 ≠ 0 → e = .returned (.int .i64 e0) ∧ Below w.heap.size w w') ∧ (e0 = 0 → e = .returned (.int .i64 0) ∧ StackOk w' st lb lcap vs c (fedL c key d cs (upto (Fin.ofNat (c.b + 1)) (c.b + 1))) ∧ Upd (cellsOf c vs) w w')

theorem upd_round {α : Type} {w W Wa : World} {bx B0 : Nat} {d b0 : Int} (G : Below w.heap.size w W ∧ W.heap[w.heap.size]? = some (.cells #[.int .i64 d] 2 (0, 0)) ∧ W.heap[bx]? = some (.cells #[.int .i64 b0] 42 (0, 0)))
    (kb : Below W.heap.size W Wa) (hbx : w.heap.size < bx) (pre : List α) (x : α) (d' e0 bd : Int) :
    KeepsOthers W ((Wa.setCell ⟨bx, 0, none⟩ (.int .i64 e0)).alloc (.cells #[.int .i64 bd, .int .i64 e0] 42)) ∧ Upd (fun k => B0 ≤ k ∨ k = bx) W ((Wa.setCell ⟨bx, 0, none⟩ (.int .i64 e0)).alloc (.cells #[.int .i64 bd, .int .i64 e0] 42)) ∧
      (Below w.heap.size w ((Wa.setCell ⟨bx, 0, none⟩ (.int .i64 e0)).alloc (.cells #[.int .i64 bd, .int .i64 e0] 42)) ∧ ((Wa.setCell ⟨bx, 0, none⟩ (.int .i64 e0)).alloc (.cells #[.int .i64 bd, .int .i64 e0] 42)).heap[w.heap.size]? = some (.cells #[.int .i64 d] 2 (0, 0)) ∧
        ((Wa.setCell ⟨bx, 0, none⟩ (.int .i64 e0)).alloc (.cells #[.int .i64 bd, .int .i64 e0] 42)).heap[bx]? = some (.cells #[.int .i64 (if pre ++ [x] = [] then 0 else e0)] 42 (0, 0))) := by
  obtain ⟨hB, h1, h2⟩ := G
  have l1 := lt_of_block h1
  have l2 := lt_of_block h2
  have k1 := (kb.block _ l1).trans h1
  have k2 := (kb.block _ l2).trans h2
  have hg : W.grownBy ((Wa.setCell ⟨bx, 0, none⟩ (.int .i64 e0)).alloc (.cells #[.int .i64 bd, .int .i64 e0] 42)) (some bx) :=
    grown_below (grown_trans (grown_of_below kb (some bx)) (grown_set Wa bx 0 _)) ((Below.refl _ _).alloc (Nat.le_refl _) _) (by have := kb.size; simp; omega)
  refine ⟨((keepsO_below kb).trans (KeepsOthers.setCell _ _ _)).trans (KeepsOthers.alloc _ _), Upd.of_grown hg (.inr rfl), hB.grown hg hB.size (fun k e => by cases e; omega), ?_, ?_⟩
  · exact heap_alloc_under _ ((heap_setCell_other _ _ _ _ (by simp; omega)).trans k1)
  · rw [if_neg (by simp)]
    exact heap_alloc_under _ (one_setCell k2)
theorem StackOk.cellsLt {w : World} {st lb lcap : Nat} {vs : Nat → Lv} {c : Cfg} {cs : Nat → List Int} (S : StackOk w st lb lcap vs c cs) {k : Nat} (h : cellsOf c vs k) : k < w.heap.size := by
  obtain ⟨l, hl, rfl⟩ := h
  exact (S.lv l hl).lt.2.2
theorem StackOk.notCells {w : World} {st lb lcap : Nat} {vs : Nat → Lv} {c : Cfg} {cs : Nat → List Int} (S : StackOk w st lb lcap vs c cs) : ¬ cellsOf c vs st ∧ ¬ cellsOf c vs lb := by
  refine ⟨?_, ?_⟩
  · rintro ⟨l, hl, e⟩
    obtain ⟨cur, hc⟩ := (S.lv l hl).cbKind
    exact kind_ne S.hd hc (by decide) e
  · rintro ⟨l, hl, e⟩
    obtain ⟨cur, hc⟩ := (S.lv l hl).cbKind
    exact own_ne_kind S.row hc (by decide) (by rw [← e]; rfl)
theorem upd_round2 {w X X2 : World} {st lb lcap key D : Nat} {vs : Nat → Lv} {c : Cfg} {cs : Nat → List Int} {d : Int} {Fr : Nat → Prop} (S : StackOk w st lb lcap vs c cs) {pre0 : List (Fin (c.b + 1))}
    (hS : StackOk X st lb lcap vs c (fedL c key d cs pre0)) (hU : Upd (cellsOf c vs) w X) (hd0 : X.heap[w.heap.size]? = some (.cells #[.int .i64 d] 2 (0, 0))) (hD0 : X.heap[D]? = some (.deferred (some []))) (hwD : w.heap.size < D) (x : Fin (c.b + 1)) (pre : List (Fin (c.b + 1)))
    (hL2 : LevelOk X2 (vs x.1) c x.1 (c.lvFed x.1 (key / 2 ^ x.1) d (fedL c key d cs pre0 x.1))) (hg2 : X.grownBy X2 (some (vs x.1).cb)) (hp : pre = pre0 := by rfl) :
    KeepsOthers X X2 ∧ Upd (fun k => Fr k ∨ cellsOf c vs k) X X2 ∧ (StackOk X2 st lb lcap vs c (fedL c key d cs (pre ++ [x])) ∧ Upd (cellsOf c vs) w X2 ∧ X2.heap[w.heap.size]? = some (.cells #[.int .i64 d] 2 (0, 0)) ∧ X2.heap[D]? = some (.deferred (some []))) := by
  subst hp
  have hlx := x.2
  have hcb := (S.lv x.1 (by omega)).lt.2.2
  obtain ⟨cur, hcur⟩ := (hS.lv x.1 (by omega)).cbKind
  refine ⟨KeepsOthers.of_grownBy hg2 (fun j o e ho => ?_), Upd.of_grown hg2 (.inr ⟨x.1, by omega, rfl⟩), ?_, hU.trans (Upd.of_grown hg2 ⟨x.1, by omega, rfl⟩), ?_, ?_⟩
  · cases e
    rw [hcur] at ho
    cases ho; rfl
  · rw [fedL_snoc]; exact hS.turn x.1 (by omega) _ hL2 hg2
  · exact (hg2.block _ (lt_of_block hd0) (by intro e; have := Option.some.inj e; omega)).trans hd0
  · exact (hg2.block _ (lt_of_block hD0) (by intro e; have := Option.some.inj e; omega)).trans hD0
theorem upd_end {w X : World} {st lb lcap D D2 : Nat} {vs : Nat → Lv} {c : Cfg} {cs ds : Nat → List Int} (S : StackOk w st lb lcap vs c cs) (hS : StackOk X st lb lcap vs c ds) (hU : Upd (cellsOf c vs) w X) (h1 : w.heap.size < D) (h2 : w.heap.size < D2) :
    StackOk ((X.putObj D2 (.deferred none)).putObj D (.deferred none)) st lb lcap vs c ds ∧ Upd (cellsOf c vs) w ((X.putObj D2 (.deferred none)).putObj D (.deferred none)) := by
  have g2 := grownBy_putObj' X D2 (.deferred none)
  have g1 := grownBy_putObj' (X.putObj D2 (.deferred none)) D (.deferred none)
  have u2 := hU.grown g2 (fun r e => by cases e; omega)
  refine ⟨S.keepB (S.keepB hS (fun k hk => g2.block k (Nat.lt_of_lt_of_le hk hU.size) (by intro e; cases e; omega))) (fun k hk => g1.block k (Nat.lt_of_lt_of_le hk u2.size) (by intro e; cases e; omega)), u2.grown g1 (fun r e => by cases e; omega)⟩
theorem stUpdate_gen (st lb lcap key : Nat) (vs : Nat → Lv) (c : Cfg) (cs : Nat → List Int) (d e0 : Int) (w : World) (S : StackOk w st lb lcap vs c cs) (R : c.Ok) (hkey : key < c.keys 0) (he0 : -100 ≤ e0 ∧ e0 ≤ 100)
    (HA : ∀ (l : Nat) (W : World), l ≤ c.b → c.keys l ≤ c.wd → LevelOk W (vs l) c l (cs l) → Calls Tryz.prog 304 #[.pointer (some ⟨(vs l).a, 0, none⟩), .int .u64 ((key : Int) / 2 ^ l), .int .i64 d] W fun e w' => e = .returned (.int .i64 e0) ∧ Below W.heap.size W w')
    (HS : ∀ (l : Nat) (W : World), l ≤ c.b → ¬ c.keys l ≤ c.wd → LevelOk W (vs l) c l (cs l) → Calls Tryz.prog 312 #[.pointer (some ⟨(vs l).a, 0, none⟩), .int .u64 ((key : Int) / 2 ^ l), .int .i64 d] W fun e w' => e = .returned (.int .i64 e0) ∧ Below W.heap.size W w')
    (UA : e0 = 0 → ∀ (l : Nat) (pre : List (Fin (c.b + 1))) (W : World), l ≤ c.b → pre.length < c.b + 1 → c.keys l ≤ c.wd → LevelOk W (vs l) c l (fedL c key d cs pre l) → Calls Tryz.prog 307 #[.pointer (some ⟨(vs l).a, 0, none⟩), .int .u64 ((key : Int) / 2 ^ l), .int .i64 d] W fun e w' => e = .returned (.int .i64 0) ∧ LevelOk w' (vs l) c l (c.lvFed l (key / 2 ^ l) d (fedL c key d cs pre l)) ∧ W.grownBy w' (some (vs l).cb))
    (US : e0 = 0 → ∀ (l : Nat) (pre : List (Fin (c.b + 1))) (W : World), l ≤ c.b → pre.length < c.b + 1 → ¬ c.keys l ≤ c.wd → LevelOk W (vs l) c l (fedL c key d cs pre l) → Calls Tryz.prog 315 #[.pointer (some ⟨(vs l).a, 0, none⟩), .int .u64 ((key : Int) / 2 ^ l), .int .i64 d] W fun e w' => e = .returned (.int .i64 0) ∧ LevelOk w' (vs l) c l (c.lvFed l (key / 2 ^ l) d (fedL c key d cs pre l)) ∧ W.grownBy w' (some (vs l).cb)) :
    Calls Tryz.prog 112 #[.pointer (some ⟨st, 0, none⟩), .int .u64 key, .int .i64 d] w (updPost e0 st lb lcap key vs c cs d w) := by
  have HAh := Lib.hid HA
  have HSh := Lib.hid HS
  have UAh := Lib.hid UA
  have USh := Lib.hid US
  clear HA HS UA US
  have hkl := c.keys_le R 0
  have hb0 : Below w.heap.size w (w.alloc (.cells #[.int .i64 d] 2)) := (Below.refl _ _).alloc (Nat.le_refl _) _
  have S1 := S.below hb0
  have HK := Lib.hid fun w => keys_any c.b c.r c.wd c.m c.s 0 w R.rc (by omega) (by omega)
  have hkv : keysV c.b 0 = (c.keys 0 : Int) := keysV_nat c.b 0
  rw [hkv] at HK
  have hkd : decide ((c.keys 0 : Int) ≤ key) = false := by simp; omega
  refine (callsIn_wide (n := 5)).1 ?_
  refine callsIn_of_wp_marks Tryz.func112 rfl trivial ?_ rfl
  simp only [Tryz.ntmps112, List.size_toArray, List.length_cons, List.length_nil, Nat.reduceAdd, Nat.reduceSub, Array.replicate_succ, Array.replicate_zero, List.push_toArray, List.append_toArray, List.nil_append, List.cons_append]
  have q0 : (w.alloc (.cells #[.int .i64 d] 2)).cell? ⟨st, 0, none⟩ = some (.int .i64 c.b) := by simp [World.cell?, S1.hd]
  have q1 : (w.alloc (.cells #[.int .i64 d] 2)).cell? ⟨st, 1, none⟩ = some (.int .i64 c.r) := by simp [World.cell?, S1.hd]
  have q2 : (w.alloc (.cells #[.int .i64 d] 2)).cell? ⟨st, 2, none⟩ = some (.int .i64 c.wd) := by simp [World.cell?, S1.hd]
  have q3 : (w.alloc (.cells #[.int .i64 d] 2)).cell? ⟨st, 3, none⟩ = some (.int .i64 c.m) := by simp [World.cell?, S1.hd]
  have q4 : (w.alloc (.cells #[.int .i64 d] 2)).cell? ⟨st, 4, none⟩ = some (.int .u64 c.s) := by simp [World.cell?, S1.hd]
  gi_wp2_with fail
  refine ⟨trivial, (callsIn_wide.2 (HK.out _)).mono ?_⟩
  rintro e w1 ⟨rfl, hb1⟩
  have k1 := below_alloc hb1
  have S2 := S1.below hb1
  gi_wp2_with fail
  have HI := Lib.hid fun w => stIter_any st key w
  refine ⟨trivial, (callsIn_wide.2 (HI.out _)).mono ?_⟩
  rintro e w2 ⟨rfl, rfl⟩
  gi_wp2_with fail
  obtain ⟨W0, hW0⟩ : ∃ W0, ((w1.alloc (.cells #[.int .i64 0] 42)).alloc (.cells #[.pointer (some ⟨st, 0, none⟩)] 41)).alloc (.cells #[.int .u64 key] 22) = W0 := ⟨_, rfl⟩
  have sz1 : w.heap.size < w1.heap.size := by have := hb1.size; simp at this; omega
  have szW : W0.heap.size = w1.heap.size + 3 := by rw [← hW0]; simp
  have kW : Below w.heap.size w W0 := by rw [← hW0]; exact ((k1.alloc k1.size _).alloc (by simp; omega) _).alloc (by simp; omega) _
  have S3 : StackOk W0 st lb lcap vs c cs := S.below kW
  have gd : W0.heap[w.heap.size]? = some (.cells #[.int .i64 d] 2 (0, 0)) := by
    rw [← hW0]; exact heap_alloc_under _ (heap_alloc_under _ (heap_alloc_under _ ((hb1.block _ (by simp)).trans (heap_alloc_at _ rfl))))
  have gt : W0.heap[w1.heap.size]? = some (.cells #[.int .i64 0] 42 (0, 0)) := by
    rw [← hW0]; exact heap_alloc_under _ (heap_alloc_under _ (heap_alloc_at _ rfl))
  have gs : W0.heap[w1.heap.size + 1]? = some (.cells #[.pointer (some ⟨st, 0, none⟩)] 41 (0, 0)) := by
    rw [← hW0]; exact heap_alloc_under _ (heap_alloc_at _ (by simp))
  have gk : W0.heap[w1.heap.size + 1 + 1]? = some (.cells #[.int .u64 key] 22 (0, 0)) := by
    rw [← hW0]; exact heap_alloc_at _ (by simp)
  rw [hW0]
  clear hW0 S1 S2 hb1 hb0 q0 q1 q2 q3 q4
  have hb59 := R.b2
  have hk64 : key < 18446744073709551616 := by omega
  have HT := at_stops Fence.wide 4 trivial rfl (by decide) (w1.heap.size + 1) (w1.heap.size + 1 + 1) st lb lcap key vs c hb59 hk64 (fun k => W0.heap.size ≤ k ∨ k = w1.heap.size) (by omega) (by omega) (by have := S.lt; omega) (by have := S.lt; omega) W0 gs gk S3.hd S3.row
  refine wpIn_rangeFunc_ownF rfl (by decide) (gf := 185) (lb := #[.pointer (some ⟨w1.heap.size + 1, 0, none⟩), .pointer (some ⟨w1.heap.size + 1 + 1, 0, none⟩)]) rfl trivial (enters_of Tryz.func185 (by kernel_rfl) rfl)
    HT
    (fun h1 h2 => h1.trans h2) ?hKb (Below.refl _ _) (fun _ => rfl)
    (fun pre W => Below w.heap.size w W ∧ W.heap[w.heap.size]? = some (.cells #[.int .i64 d] 2 (0, 0)) ∧ W.heap[w1.heap.size]? = some (.cells #[.int .i64 (if pre = [] then 0 else e0)] 42 (0, 0)))
    (fun _ _ _ => False) ?hI ?hIx ?h0 (fun x => { tmps := #[.pointer (some ⟨st, 0, none⟩), .int .u64 key, .int .i64 d, undef, undef, .pointer (some ⟨w.heap.size, 0, none⟩), .int .i64 0, .pointer (some ⟨w1.heap.size, 0, none⟩), .iface (c.lt x.1) (.pointer (some ⟨(vs x.1).a, 0, none⟩)), .int .u64 ((key : Int) / 2 ^ x.1), undef, undef, .int .u64 key, .pointer (some ⟨st, 0, none⟩), .pointer (some ⟨st, 0, none⟩), .pointer (some ⟨st, 0, none⟩), .agg #[.int .i64 c.b, .int .i64 c.r, .int .i64 c.wd, .int .i64 c.m, .int .u64 c.s], .int .u64 (c.keys 0), .bool false, .pointer (some ⟨st, 0, none⟩), .int .u64 key, .func (.func 185) #[] #[.pointer (some ⟨w1.heap.size + 1, 0, none⟩), .pointer (some ⟨w1.heap.size + 1 + 1, 0, none⟩)], .iface (c.lt x.1) (.pointer (some ⟨(vs x.1).a, 0, none⟩)), .int .u64 ((key : Int) / 2 ^ x.1), undef, undef, undef, undef, undef, undef, undef, undef, undef, undef, undef, undef, undef, undef, undef, undef, undef, undef, undef], defers := [] }) ?assign ?body ?done ?stop
  case h0 => exact ⟨kW, gd, by simpa using gt⟩
  case hIx => exact fun _ _ _ _ _ hs _ _ => hs
  case hKb => exact fun W l o o' hl ho h1 h2 => Upd.of_grown (grownBy_putObj' W l o') (.inl hl)
  case hI =>
    intro pre A B row hs hg hr
    refine ⟨hs.1.grown hg hs.1.size (fun k e => by have := (hr k e).1; omega), (hg.block _ (lt_of_block hs.2.1) (by intro e; have := (hr _ e.symm).1; omega)).trans hs.2.1, (hg.block _ (lt_of_block hs.2.2) (by intro e; have := (hr _ e.symm).1; omega)).trans hs.2.2⟩
  case assign =>
    intro l x W K hK
    unfold lvEnc
    gi_wp2
    exact hK
  case body =>
    rename_i _h1 _K1 _hK1
    clear _hK1 _K1 _h1
    rintro l pre x W ⟨hB, gdW, gtW⟩ hlen
    have cd : W.cell? ⟨w.heap.size, 0, none⟩ = some (.int .i64 d) := cell_of_heap gdW 0 _ rfl
    have ct : W.cell? ⟨w1.heap.size, 0, none⟩ = some (.int .i64 (if pre = [] then 0 else e0)) := cell_of_heap gtW 0 _ rfl
    have hF : firstI (if pre = [] then 0 else e0) e0 = e0 := by unfold firstI; split <;> split <;> omega
    generalize (if pre = [] then (0 : Int) else e0) = bd at ct hF
    have HF := Lib.hid hF
    clear hF
    have cf : W.frozen? ⟨w1.heap.size, 0, none⟩ = false := by simp [World.frozen?, gtW]
    have hlx := x.2
    have SW := (S.below hB)
    have hlx := x.2
    have lt1 := lt_of_block gdW
    have lt2 := lt_of_block gtW
    by_cases he : c.keys x.1 ≤ c.wd
    · have HC := Lib.hid fun k : After W.heap.size W => HAh.out x.1 k.w (by omega) he ((SW.below k.h).lv x.1 (by omega))
      rw [c.lt_arr he]
      clear he SW
      clear HAh HSh UAh USh HK HI HT S S3 R hkey he0 hkv hkd k1 kW gd gt gs gk hb59 hk64 hkl hlen hlx
      have GG := Lib.hid (And.intro hB (And.intro gdW gtW))
      clear hB gdW gtW
      gi_wp2_with fail
      refine wpIn_region_mixA W.heap.size [0, 1, 2, 3, 4] [5, 6, 7] (by kernel_rfl) (by kernel_rfl) rfl rfl ?_
      simp only [opsAt, List.map_cons, List.map_nil, List.getElem?_toArray, List.getElem?_cons_zero, List.getElem?_cons_succ, Option.getD_some]
      have hmA : ∀ (b : Nat) (W : World), (method 537 259 (.pointer (some ⟨b, 0, none⟩)) "Check").run Tryz.prog W = .ok (304, .pointer (some ⟨b, 0, none⟩)) W := fun _ _ => by kernel_rfl
      have z0 := fun k : After W.heap.size W => k.cell lt1 cd
      have z1 := fun k : After W.heap.size W => k.cell lt2 ct
      repeat (go_big_quiet_step ((go_at_call 304; exact after_of (Nat.le_refl _) _ (HC.out _))))
      refine wpQuiet_nil ?_
      intro kk
      unfold calmQ
      have kb := kk.h
      clear z0 z1 HC hmA
      obtain ⟨Wa, hw1⟩ : ∃ Wa, kk.w = Wa := ⟨_, rfl⟩
      rw [hw1] at kb
      rw [hw1]
      clear hw1 kk
      have ct2 := (kb.cell (p := ⟨w1.heap.size, 0, none⟩) lt2).trans ct
      have cf2 := (kb.frozen (p := ⟨w1.heap.size, 0, none⟩) lt2).trans cf
      have hs2 := Nat.lt_of_lt_of_le lt2 kb.size
      clear ct cf cd
      go_wp2_with fail
      refine (first_eq _ _ _ _ _ _ HF.out (lit2c _ _ _ _).1 (lit2c _ _ _ _).2).mono ?_
      rintro e Wb ⟨rfl, rfl⟩
      go_wp2_with fail
      exact upd_round GG.out kb sz1 pre x d e0 bd
    · have HC := Lib.hid fun k : After W.heap.size W => HSh.out x.1 k.w (by omega) he ((SW.below k.h).lv x.1 (by omega))
      rw [c.lt_sk he]
      clear he SW
      clear HAh HSh UAh USh HK HI HT S S3 R hkey he0 hkv hkd k1 kW gd gt gs gk hb59 hk64 hkl hlen hlx
      have GG := Lib.hid (And.intro hB (And.intro gdW gtW))
      clear hB gdW gtW
      gi_wp2_with fail
      refine wpIn_region_mixA W.heap.size [0, 1, 2, 3, 4] [5, 6, 7] (by kernel_rfl) (by kernel_rfl) rfl rfl ?_
      simp only [opsAt, List.map_cons, List.map_nil, List.getElem?_toArray, List.getElem?_cons_zero, List.getElem?_cons_succ, Option.getD_some]
      have hmA : ∀ (b : Nat) (W : World), (method 537 262 (.pointer (some ⟨b, 0, none⟩)) "Check").run Tryz.prog W = .ok (312, .pointer (some ⟨b, 0, none⟩)) W := fun _ _ => by kernel_rfl
      have z0 := fun k : After W.heap.size W => k.cell lt1 cd
      have z1 := fun k : After W.heap.size W => k.cell lt2 ct
      repeat (go_big_quiet_step ((go_at_call 312; exact after_of (Nat.le_refl _) _ (HC.out _))))
      refine wpQuiet_nil ?_
      intro kk
      unfold calmQ
      have kb := kk.h
      clear z0 z1 HC hmA
      obtain ⟨Wa, hw1⟩ : ∃ Wa, kk.w = Wa := ⟨_, rfl⟩
      rw [hw1] at kb
      rw [hw1]
      clear hw1 kk
      have ct2 := (kb.cell (p := ⟨w1.heap.size, 0, none⟩) lt2).trans ct
      have cf2 := (kb.frozen (p := ⟨w1.heap.size, 0, none⟩) lt2).trans cf
      have hs2 := Nat.lt_of_lt_of_le lt2 kb.size
      clear ct cf cd
      go_wp2_with fail
      refine (first_eq _ _ _ _ _ _ HF.out (lit2c _ _ _ _).1 (lit2c _ _ _ _).2).mono ?_
      rintro e Wb ⟨rfl, rfl⟩
      go_wp2_with fail
      exact upd_round GG.out kb sz1 pre x d e0 bd
  case done =>
    rintro D ys W hD rfl ⟨hB, gdW, gtW⟩ hKD
    rw [if_neg (by simp [upto, List.range_succ])] at gtW
    have ct : W.cell? ⟨w1.heap.size, 0, none⟩ = some (.int .i64 e0) := cell_of_heap gtW 0 _ rfl
    by_cases h0 : e0 = 0
    · have hb0 : (e0 != 0) = false := by simp [h0]
      have UA1 := Lib.hid (UAh.out h0)
      have US1 := Lib.hid (USh.out h0)
      clear UAh USh HAh HSh HT gd gt gs gk gtW
      gi_wp2_with fail
      refine ⟨trivial, (callsIn_wide.2 (HI.out _)).mono ?_⟩
      rintro e w2 ⟨rfl, rfl⟩
      gi_wp2_with fail
      obtain ⟨V0, hV0⟩ : ∃ V0, (W.alloc (.cells #[.pointer (some ⟨st, 0, none⟩)] 41)).alloc (.cells #[.int .u64 key] 22) = V0 := ⟨_, rfl⟩
      have szV : V0.heap.size = W.heap.size + 2 := by rw [← hV0]; simp
      have kV : Below w.heap.size w V0 := by rw [← hV0]; exact (hB.alloc hB.size _).alloc (by have := hB.size; simp; omega) _
      have SV : StackOk V0 st lb lcap vs c cs := S.below kV
      have gdV : V0.heap[w.heap.size]? = some (.cells #[.int .i64 d] 2 (0, 0)) := by rw [← hV0]; exact heap_alloc_under _ (heap_alloc_under _ gdW)
      have gDV : V0.heap[D]? = some (.deferred (some [])) := by rw [← hV0]; exact heap_alloc_under _ (heap_alloc_under _ hKD)
      have gsV : V0.heap[W.heap.size]? = some (.cells #[.pointer (some ⟨st, 0, none⟩)] 41 (0, 0)) := by rw [← hV0]; exact heap_alloc_under _ (heap_alloc_at _ rfl)
      have gkV : V0.heap[W.heap.size + 1]? = some (.cells #[.int .u64 key] 22 (0, 0)) := by rw [← hV0]; exact heap_alloc_at _ (by simp)
      have lD := lt_of_block gDV
      rw [hV0]
      clear hV0 gdW hKD ct HI
      have hnc := S.notCells
      have hWs := hB.size
      have hT2 := at_stops Fence.wide 4 trivial rfl (by decide) W.heap.size (W.heap.size + 1) st lb lcap key vs c hb59 hk64 (fun k => V0.heap.size ≤ k ∨ cellsOf c vs k)
        (by rintro (h | h); · omega
            · have := S.cellsLt h; omega)
        (by rintro (h | h); · omega
            · have := S.cellsLt h; omega)
        (by rintro (h | h); · have := S.lt; omega
            · exact hnc.1 h)
        (by rintro (h | h); · have := S.lt; omega
            · exact hnc.2 h) V0 gsV gkV SV.hd SV.row
      refine wpIn_rangeFunc_ownF rfl (by decide) (gf := 185) (lb := #[.pointer (some ⟨W.heap.size, 0, none⟩), .pointer (some ⟨W.heap.size + 1, 0, none⟩)]) rfl trivial (enters_of Tryz.func185 (by kernel_rfl) rfl)
        hT2 (fun h1 h2 => h1.trans h2) ?gKb (Below.refl _ _) (fun _ => rfl)
        (fun pre X => StackOk X st lb lcap vs c (fedL c key d cs pre) ∧ Upd (cellsOf c vs) w X ∧ X.heap[w.heap.size]? = some (.cells #[.int .i64 d] 2 (0, 0)) ∧ X.heap[D]? = some (.deferred (some [])))
        (fun _ _ _ => False) ?gI ?gIx ?g0 (fun x => { tmps := #[.pointer (some ⟨st, 0, none⟩), .int .u64 key, .int .i64 d, undef, undef, .pointer (some ⟨w.heap.size, 0, none⟩), .int .i64 0, .pointer (some ⟨w1.heap.size, 0, none⟩), undef, undef, .iface (c.lt x.1) (.pointer (some ⟨(vs x.1).a, 0, none⟩)), .int .u64 ((key : Int) / 2 ^ x.1), .int .u64 key, .pointer (some ⟨st, 0, none⟩), .pointer (some ⟨st, 0, none⟩), .pointer (some ⟨st, 0, none⟩), .agg #[.int .i64 c.b, .int .i64 c.r, .int .i64 c.wd, .int .i64 c.m, .int .u64 c.s], .int .u64 (c.keys 0), .bool false, .pointer (some ⟨st, 0, none⟩), .int .u64 key, .func (.func 185) #[] #[.pointer (some ⟨w1.heap.size + 1, 0, none⟩), .pointer (some ⟨w1.heap.size + 1 + 1, 0, none⟩)], undef, undef, undef, undef, undef, undef, undef, undef, undef, .int .i64 0, .bool false, undef, .pointer (some ⟨st, 0, none⟩), .int .u64 key, .func (.func 185) #[] #[.pointer (some ⟨W.heap.size, 0, none⟩), .pointer (some ⟨W.heap.size + 1, 0, none⟩)], .iface (c.lt x.1) (.pointer (some ⟨(vs x.1).a, 0, none⟩)), .int .u64 ((key : Int) / 2 ^ x.1), undef, undef, undef, undef], defers := [] }) ?gassign ?gbody ?gdone ?gstop
      case g0 => exact ⟨SV, Upd.of_below kV, gdV, gDV⟩
      case gIx => exact fun _ _ _ _ _ hs _ _ => hs
      case gKb => exact fun X l o o' hl ho h1 h2 => Upd.of_grown (grownBy_putObj' X l o') (.inl hl)
      case gI =>
        intro pre A B row hs hg hr
        refine ⟨S.keepB hs.1 (fun k hk => hg.block k (Nat.lt_of_lt_of_le hk hs.2.1.size) (by intro e; have := (hr k e.symm).1; have := kV.size; omega)), hs.2.1.grown hg (fun r e => by have := (hr r e).1; have := kV.size; omega), ?_, ?_⟩
        · exact (hg.block _ (lt_of_block hs.2.2.1) (by intro e; have := (hr _ e.symm).1; omega)).trans hs.2.2.1
        · exact (hg.block _ (lt_of_block hs.2.2.2) (by intro e; have := (hr _ e.symm).1; omega)).trans hs.2.2.2
      case gassign =>
        intro l x X K hK
        unfold lvEnc
        gi_wp2
        exact hK
      case gbody =>
        clear hT2
        rintro l pre x X ⟨hS, hU, hd0, hD0⟩ hlen
        have cd : X.cell? ⟨w.heap.size, 0, none⟩ = some (.int .i64 d) := cell_of_heap hd0 0 _ rfl
        have hlx := x.2
        by_cases he : c.keys x.1 ≤ c.wd
        · have HC := Lib.hid (UA1.out x.1 pre X (by omega) hlen he (hS.lv x.1 (by omega)))
          rw [c.lt_arr he]
          have hmA : ∀ (b : Nat) (W : World), (method 537 259 (.pointer (some ⟨b, 0, none⟩)) "Update").run Tryz.prog W = .ok (307, .pointer (some ⟨b, 0, none⟩)) W := fun _ _ => by kernel_rfl
          gi_wp2_with fail
          refine ⟨trivial, (CallsIn.inRound l (callsIn_wide.2 HC.out)).mono ?_⟩
          rintro e X2 ⟨rfl, hL2, hg2⟩
          gi_wp2_with fail
          exact upd_round2 S hS hU hd0 hD0 (by omega) x pre hL2 hg2
        · have HC := Lib.hid (US1.out x.1 pre X (by omega) hlen he (hS.lv x.1 (by omega)))
          rw [c.lt_sk he]
          have hmA : ∀ (b : Nat) (W : World), (method 537 262 (.pointer (some ⟨b, 0, none⟩)) "Update").run Tryz.prog W = .ok (315, .pointer (some ⟨b, 0, none⟩)) W := fun _ _ => by kernel_rfl
          gi_wp2_with fail
          refine ⟨trivial, (CallsIn.inRound l (callsIn_wide.2 HC.out)).mono ?_⟩
          rintro e X2 ⟨rfl, hL2, hg2⟩
          gi_wp2_with fail
          exact upd_round2 S hS hU hd0 hD0 (by omega) x pre hL2 hg2
      case gdone =>
        rintro D2 ys X hD2 rfl ⟨hS, hU, hd0, hD0⟩ hKD2
        have lDD : D ≠ D2 := by omega
        have hwD : w.heap.size < D := by omega
        have hwD2 : w.heap.size < D2 := by have := kV.size; omega
        gi_wp2_with fail
        refine ⟨by simp, .inl ⟨_, _, rfl, run_takeDeferred hKD2, ?_⟩⟩
        refine ⟨by simp, .inl ⟨_, _, rfl, run_takeDeferred ((World.putObj_heap_other lDD).trans hD0), ?_⟩⟩
        exact ⟨_, results_tmp rfl _ _ _, fun h => absurd h0 h, fun _ => ⟨rfl, upd_end S hS hU hwD hwD2⟩⟩
      case gstop =>
        rintro D2 c2 pre X _ _ h _
        exact h.elim
    · have hb0 : (e0 != 0) = true := by simp [h0]
      clear UAh USh HAh HSh HT HI
      gi_wp2_with fail
      refine ⟨by simp, .inl ⟨_, _, rfl, run_takeDeferred hKD, ?_⟩⟩
      exact ⟨_, results_tmp rfl _ _ _, fun _ => ⟨rfl, hB.trans (belowK_b (w := w) (Nat.le_refl _) W D _ _ (by omega) hKD rfl rfl)⟩, fun e => absurd e h0⟩
  case stop =>
    rintro D c pre W _ _ h _
    exact h.elim

theorem pow_cast (key l : Nat) : (key : Int) / 2 ^ l = ((key / 2 ^ l : Nat) : Int) := by simp
theorem stUpdate_any (st lb lcap key : Nat) (vs : Nat → Lv) (c : Cfg) (cs : Nat → List Int) (d M D : Int) (w : World) (S : StackOk w st lb lcap vs c cs) (R : c.Ok) (hkey : key < c.keys 0) (hd : -D ≤ d ∧ d ≤ D) (hD : 0 ≤ D) (hM : 0 ≤ M) (hMD : M + D * 61 ≤ 1152921504606846976)
    (hm : c.m = 2 → 0 ≤ d) (hB : ∀ l, l ≤ c.b → Bd M (cs l)) :
    Calls Tryz.prog 112 #[.pointer (some ⟨st, 0, none⟩), .int .u64 key, .int .i64 d] w fun e w' => e = .returned (.int .i64 0) ∧ StackOk w' st lb lcap vs c (fun l => if l < c.b + 1 then c.lvFed l (key / 2 ^ l) d (cs l) else cs l) ∧ Upd (cellsOf c vs) w w' := by
  have hb2 := R.b2
  have hbd : ∀ (pre : List (Fin (c.b + 1))), pre.length < c.b + 1 → ∀ k, k ≤ c.b → Small (fedL c key d cs pre k) := by
    intro pre hp k hk
    refine (fedL_bd c key d M D hM hD hd pre cs M hM hB k hk).small ?_
    have : D * (pre.length : Int) ≤ D * 61 := Int.mul_le_mul_of_nonneg_left (by omega) hD
    omega
  have hs0 : ∀ k, k ≤ c.b → Small (cs k) := fun k hk => (hB k hk).small (by omega)
  have hk1 : ∀ l, l ≤ c.b → key / 2 ^ l < c.keys l := fun l hl => by
    unfold Cfg.keys at *
    apply Nat.div_lt_of_lt_mul
    rw [← Nat.pow_add, show l + (c.b - l) = c.b - 0 by omega]; exact hkey
  refine (stUpdate_gen st lb lcap key vs c cs d 0 w S R hkey (by omega) ?_ ?_ ?_ ?_).mono ?_
  · intro l W hl he hL
    rw [pow_cast]
    exact aCheck_any (vs l).a (vs l).g (vs l).cb (vs l).cap c l (cs l) W (hL.arr he) R (key / 2 ^ l) d (hk1 l hl) (by omega) (by omega) hm (hs0 l hl)
  · intro l W hl he hL
    rw [pow_cast]
    exact skCheck_any (vs l).a (vs l).g (vs l).cb (vs l).cap c l (key / 2 ^ l) d (cs l) W (hL.sk he) R hl (hk1 l hl) (by omega) (by omega) hm (hs0 l hl)
  · intro _ l pre W hl hp he hL
    rw [pow_cast]
    refine (aUpdate_any (vs l).a (vs l).g (vs l).cb (vs l).cap c l _ W (hL.arr he) R (key / 2 ^ l) d (hk1 l hl) (by omega) (by omega) hm (hbd pre hp l hl)).mono ?_
    rintro e w' ⟨rfl, hA, hg⟩
    refine ⟨rfl, ⟨fun _ => ?_, fun h => absurd he h⟩, hg⟩
    unfold Cfg.lvFed; rw [if_pos he]; exact hA
  · intro _ l pre W hl hp he hL
    rw [pow_cast]
    refine (skUpdate_any (vs l).a (vs l).g (vs l).cb (vs l).cap c l (key / 2 ^ l) d _ W (hL.sk he) R hl (hk1 l hl) (by omega) (by omega) hm (hbd pre hp l hl)).mono ?_
    rintro e w' ⟨rfl, hA, hg⟩
    refine ⟨rfl, ⟨fun h => absurd h he, fun _ => ?_⟩, hg⟩
    unfold Cfg.lvFed; rw [if_neg he]; exact hA
  · rintro e w' ⟨_, h⟩
    have := h rfl
    rw [fedL_all c key d cs (c.b + 1) (Nat.le_refl _)] at this
    exact this
theorem stUpdate_no (st lb lcap key : Nat) (vs : Nat → Lv) (c : Cfg) (cs : Nat → List Int) (d : Int) (w : World) (S : StackOk w st lb lcap vs c cs) (R : c.Ok) (hkey : key < c.keys 0) (hd : d < 0) (hd2 : -1152921504606846976 ≤ d) (hm : c.m = 2) :
    Calls Tryz.prog 112 #[.pointer (some ⟨st, 0, none⟩), .int .u64 key, .int .i64 d] w fun e w' => e = .returned (.int .i64 3) ∧ Below w.heap.size w w' := by
  have hk1 : ∀ l, l ≤ c.b → key / 2 ^ l < c.keys l := fun l hl => by
    unfold Cfg.keys at *
    apply Nat.div_lt_of_lt_mul
    rw [← Nat.pow_add, show l + (c.b - l) = c.b - 0 by omega]; exact hkey
  refine (stUpdate_gen st lb lcap key vs c cs d 3 w S R hkey (by omega) ?_ ?_ (fun h => by omega) (fun h => by omega)).mono ?_
  · intro l W hl he hL
    rw [pow_cast]
    exact aCheck_no (vs l).a (vs l).g (vs l).cb (vs l).cap c l (cs l) W (hL.arr he) R (key / 2 ^ l) d (hk1 l hl) hd hm
  · intro l W hl he hL
    rw [pow_cast]
    exact skCheck_no (vs l).a (vs l).g (vs l).cb (vs l).cap c l (key / 2 ^ l) d (cs l) W (hL.sk he) R hl (hk1 l hl) hd hm
  · rintro e w' ⟨h, _⟩
    exact h (by omega)
end Go.Proofs.YtbhppbeepmllaaaGreatDoor

set_option maxHeartbeats 2000000
namespace Go.Proofs.YtbhppbeepmllaaaGreatDoor
open Go.RowKit

theorem mAlike_any (sa la ca sb lb cb : Nat) (va vb : Nat → Lv) (c : Cfg) (xs ys : Nat → List Int) (w : World) (S : StackOk w sa la ca va c xs) (T : StackOk w sb lb cb vb c ys) :
  Calls Tryz.prog 164 #[.pointer (some ⟨sa, 0, none⟩), .pointer (some ⟨sb, 0, none⟩)] w fun e w' => e = .returned (.bool true) ∧ Below w.heap.size w w' := by
 have H1 := Lib.hid fun w S => stConfig_any sa la ca va c xs w S
 have H2 := Lib.hid fun w S => stConfig_any sb lb cb vb c ys w S
 go_enter Tryz.func164, Tryz.ntmps164
 go_wp2_with fail
 refine (H1.out _ S).mono ?_
 rintro e w1 ⟨rfl, hb⟩
 have T1 := T.below hb
 go_wp2_with fail
 refine (H2.out _ T1).mono ?_
 rintro e w2 ⟨rfl, hb2⟩
 go_wp2_with fail
 go_ret
 exact ⟨by simp, hb.trans (hb2.mono hb.size)⟩

structure Joins (how : Nat) (c : Cfg) (f : Int → Int → Int) (xs ys : Nat → List Int) : Prop where
 arr : ∀ (l : Nat) (v u : Lv) (w : World), l ≤ c.b → c.keys l ≤ c.wd → LevelOk w v c l (xs l) → LevelOk w u c l (ys l) →
  Calls Tryz.prog how #[.iface 259 (.pointer (some ⟨v.a, 0, none⟩)), .iface 259 (.pointer (some ⟨u.a, 0, none⟩))] w fun e w' => e = .returned (.int .i64 0) ∧ LevelOk w' v c l (zipI f (xs l) (ys l)) ∧ w.grownBy w' (some v.cb)
 sk : ∀ (l : Nat) (v u : Lv) (w : World), l ≤ c.b → ¬ c.keys l ≤ c.wd → LevelOk w v c l (xs l) → LevelOk w u c l (ys l) →
  Calls Tryz.prog how #[.iface 262 (.pointer (some ⟨v.a, 0, none⟩)), .iface 262 (.pointer (some ⟨u.a, 0, none⟩))] w fun e w' => e = .returned (.int .i64 0) ∧ LevelOk w' v c l (zipI f (xs l) (ys l)) ∧ w.grownBy w' (some v.cb)
theorem joins_merge (c : Cfg) (R : c.Ok) (xs ys : Nat → List Int) (hx : ∀ l, l ≤ c.b → Small (xs l)) (hy : ∀ l, l ≤ c.b → Small (ys l)) : Joins 167 c (· + ·) xs ys :=
 ⟨fun l v u w hl he hv hu => lvMerge_arr v u c l _ _ w R hv hu he (hx l hl) (hy l hl), fun l v u w hl he hv hu => lvMerge_sk v u c l _ _ w R hv hu he (hx l hl) (hy l hl)⟩
theorem joins_sub (c : Cfg) (R : c.Ok) (xs ys : Nat → List Int) (hx : ∀ l, l ≤ c.b → Small (xs l)) (hy : ∀ l, l ≤ c.b → Small (ys l)) (hm : c.m ≠ 2) : Joins 169 c (· - ·) xs ys :=
 ⟨fun l v u w hl he hv hu => lvSub_arr v u c l _ _ w R hv hu he (hx l hl) (hy l hl) hm, fun l v u w hl he hv hu => lvSub_sk v u c l _ _ w R hv hu he (hx l hl) (hy l hl) hm⟩

def rowsV (gs lcs : Nat → Nat) (c : Cfg) (k : Nat) : List Value := (List.range k).map fun l => .slice (some ⟨gs l, 0, none⟩) (c.size l) (lcs l)
theorem rowsV_succ (gs lcs : Nat → Nat) (c : Cfg) (k : Nat) : rowsV gs lcs c (k + 1) = rowsV gs lcs c k ++ [.slice (some ⟨gs k, 0, none⟩) (c.size k) (lcs k)] := by simp [rowsV, List.range_succ]
theorem rowsV_at (gs lcs : Nat → Nat) (c : Cfg) (n l : Nat) (h : l < n) : (rowsV gs lcs c n)[l]? = some (.slice (some ⟨gs l, 0, none⟩) (c.size l) (lcs l)) := by simp [rowsV, h]
theorem rowsV_congr (gs hs lcs ls : Nat → Nat) (c : Cfg) (n : Nat) (h : ∀ l < n, gs l = hs l ∧ lcs l = ls l) : rowsV gs lcs c n = rowsV hs ls c n := by
 unfold rowsV
 apply List.map_congr_left
 intro l hl
 obtain ⟨h1, h2⟩ := h l (by simpa using hl)
 rw [h1, h2]
structure Rowed (B : Nat) (w : World) (gs lcs : Nat → Nat) (c : Cfg) (zs : Nat → List Int) (k : Nat) : Prop where
 row : ∀ l, l < k → w.ownsRow B 2 1 (.slice (some ⟨gs l, 0, none⟩) (c.size l) (lcs l)) (c.size l) (i64s (zs l))
theorem Rowed.below {B : Nat} {w w' : World} {gs lcs : Nat → Nat} {c : Cfg} {zs : Nat → List Int} {k : Nat} (h : Rowed B w gs lcs c zs k) (hb : Below w.heap.size w w') : Rowed B w' gs lcs c zs k := ⟨fun l hl => own_below (h.row l hl) hb⟩
theorem Rowed.grown {B : Nat} {w w' : World} {gs lcs : Nat → Nat} {c : Cfg} {zs : Nat → List Int} {k : Nat} {o : Option Nat} (h : Rowed B w gs lcs c zs k) (hg : w.grownBy w' o) (hn : ∀ l, l < k → o ≠ some (gs l)) : Rowed B w' gs lcs c zs k :=
 ⟨fun l hl => (h.row l hl).kept hg (.inr fun e => hn l hl (e.symm.trans rfl))⟩
theorem Rowed.succ {B : Nat} {w : World} {gs lcs : Nat → Nat} {c : Cfg} {zs : Nat → List Int} {k g lc : Nat} (h : Rowed B w gs lcs c zs k) (hr : w.ownsRow B 2 1 (.slice (some ⟨g, 0, none⟩) (c.size k) lc) (c.size k) (i64s (zs k))) :
  Rowed B w (fun l => if l = k then g else gs l) (fun l => if l = k then lc else lcs l) c zs (k + 1) := by
 refine ⟨fun l hl => ?_⟩
 by_cases e : l = k
 ·subst e; simpa using hr
 ·simp only [e, if_false]; exact h.row l (by omega)
end Go.Proofs.YtbhppbeepmllaaaGreatDoor

namespace Go.Proofs.YtbhppbeepmllaaaGreatDoor
open Go.RowKit

theorem cfgBits (b r wd m : Int) (s : Int) (w : World) : (Instr.field 24 (.agg #[.int .i64 b, .int .i64 r, .int .i64 wd, .int .i64 m, .int .u64 s]) 0).run Tryz.prog w = .ok (.int .i64 b) w := by kernel_rfl
theorem Tryz.info34 : (Tryz.prog.info? 34).map (fun i => (i.zero, i.size, i.bytes)) = some (some (.slice none 0 0), 1, 24) := by kernel_rfl
theorem mAll167_any (sa la ca sb lb cb : Nat) (va vb : Nat → Lv) (c : Cfg) (f : Int → Int → Int) (xs ys : Nat → List Int) (w : World) (S : StackOk w sa la ca va c xs) (T : StackOk w sb lb cb vb c ys) (R : c.Ok) (J : Joins 167 c f xs ys) :
  Calls Tryz.prog 168 #[.agg #[.func (.func 167) #[] #[]], .pointer (some ⟨sa, 0, none⟩), .pointer (some ⟨sb, 0, none⟩)] w fun e w' => e = .returned (.int .i64 0) ∧ StackOk w' sa la ca va c (fun l => if l < c.b + 1 then zipI f (xs l) (ys l) else xs l) ∧ Upd (cellsOf c va) w w' := by
 have hb1 := R.b1
 have hb2' := R.b2
 obtain ⟨i0, hi, hz0, hz1, hz2⟩ := info_parts Tryz.info34
 have hb0 : Below w.heap.size w (w.alloc (.cells #[.func (.func 167) #[] #[]] 293)) := (Below.refl _ _).alloc (Nat.le_refl _) _
 have HK := Lib.hid (mAlike_any sa la ca sb lb cb va vb c xs ys _ (S.below hb0) (T.below hb0))
 have hlenZ : ∀ l, l ≤ c.b → (zipI f (xs l) (ys l)).length = c.size l := fun l hl => by
  have h1 := (S.lv l hl).len
  have h2 := (T.lv l hl).len
  unfold zipI; simp [h1, h2]
 go_enter Tryz.func168, Tryz.ntmps168
 go_wp2_with fail
 go_step3
 go_wp2_with fail
 refine HK.out.mono ?_
 rintro e w1 ⟨rfl, hb⟩
 have k1 := below_alloc hb
 have hx1 : w1.heap[w.heap.size]? = some (.cells #[.func (.func 167) #[] #[]] 293 (0, 0)) := (hb.block _ (by simp)).trans (heap_alloc_at _ rfl)
 have HG := Lib.hid (stConfig_any sa la ca va c xs w1 (S.below k1))
 clear hb hb0 HK
 go_wp2_with fail
 go_step3
 go_wp2_with fail
 refine HG.out.mono ?_
 rintro e w2 ⟨rfl, hb⟩
 have k2 := k1.trans (hb.mono k1.size)
 have hx2 := (hb.block _ (lt_of_block hx1)).trans hx1
 clear hb HG hx1 k1
 have hcf := fun w => cfgBits c.b c.r c.wd c.m c.s w
 go_wp2_with fail
 clear hcf
 go_loopw [7, 8, 24] (fun i b j wr => ∃ (k : Nat) (gs lcs : Nat → Nat), k ≤ c.b + 1 ∧ b = .int .i64 0 ∧ j = .int .i64 k ∧ wr.heap[w.heap.size]? = some (.cells #[.func (.func 167) #[] #[]] 293 (0, 0)) ∧
  wr.ownsRow (w.heap.size + 1) 34 1 i k (rowsV gs lcs c k) ∧ Rowed (w.heap.size + 1) wr gs lcs c (fun l => zipI f (xs l) (ys l)) k ∧ Below w.heap.size w wr) (fun i b j _ => c.b + 1 - (intOf j).toNat)
 case atStart => exact ⟨0, fun _ => 0, fun _ => 0, by omega, rfl, rfl, hx2, World.ownsRow_nil _ _ _ _, ⟨fun l hl => absurd hl (by omega)⟩, k2⟩
 case round =>
  obtain ⟨k, gs, lcs, hk, rfl, rfl, h0, hO, hD, hB⟩ := hrel
  have hl0 := lt_of_block h0
  have q0 : wr.cell? ⟨w.heap.size, 0, none⟩ = some (.func (.func 167) #[] #[]) := cell_of_heap h0 0 _ rfl
  have hsp := Cfg.size_pos R k
  have szr := hB.size
  by_cases hlt2 : k < c.b + 1
  ·by_cases he : c.keys k ≤ c.wd
   ·skip
    have HA := Lib.hid (stAt_any sa la ca va c xs wr (S.keepB (S.below hB) (fun _ _ => rfl)) R k (by omega))
    rw [c.lt_arr he] at HA
    go_wp2_with fail
    refine HA.out.mono ?_
    rintro e w2 ⟨⟨v, rfl, hv⟩, hb2⟩
    clear HA
    have HV := Lib.hid hv
    clear hv
    have HB := Lib.hid (stAt_any sb lb cb vb c ys w2 (T.below (hB.trans (hb2.mono hB.size))) R k (by omega))
    rw [c.lt_arr he] at HB
    go_wp2_with fail
    refine HB.out.mono ?_
    rintro e w3 ⟨⟨u, rfl, hu⟩, hb3⟩
    clear HB
    have hv3 := HV.out.ok.below hb3 HV.out.ok.lt.1 HV.out.ok.lt.2.1 HV.out.ok.lt.2.2
    have HJ := Lib.hid (J.arr k v u w3 (by omega) he hv3 hu.ok)
    clear hv3 hu
    have kb3 := hb2.trans (hb3.mono hb2.size)
    have q3 : w3.cell? ⟨w.heap.size, 0, none⟩ = some (.func (.func 167) #[] #[]) := (kb3.cell (p := ⟨w.heap.size, 0, none⟩) hl0).trans q0
    clear q0
    go_wp2_with fail
    refine HJ.out.mono ?_
    rintro e w4 ⟨rfl, hL4, hg4⟩
    clear HJ
    have kb4 := kb3.grown hg4 kb3.size (fun b e => by cases e; exact HV.out.c1)
    have hlen := hL4.len
    have HC := Lib.hid (aCellsN_any v.a v.g v.cb v.cap (c.size k) c k _ _ (hL4.arr he) R hlen)
    clear hL4 hlen q3 HV
    go_wp2_with fail
    refine HC.out.mono ?_
    rintro e w5 ⟨⟨g, lc, rfl, ho⟩, hb5⟩
    clear HC
    have kb5 := kb4.trans (hb5.mono kb4.size)
    have hO5 := own_below hO kb5
    have hD5 := hD.below kb5
    have h05 := (kb5.block _ hl0).trans h0
    have hB5 := hB.trans (kb5.mono hB.size)
    have sz5 := hB5.size
    have hbs : w.heap.size + 1 ≤ w4.heap.size := by have := kb4.size; omega
    have hr5 := own_base ho hbs
    clear hO hD h0 hB kb5 kb4 kb3 hb5 hb3 hb2 ho
    have HR := Lib.hid hr5
    have HD5 := Lib.hid hD5
    clear hr5 hD5
    go_wp2_with (at_builtin; refine wpList_append_own_at _ rfl (.tmp 46) (.tmp 49) 349 rfl (w.heap.size + 1) 34 i0 (.slice none 0 0) 1 24 Tryz.underlying349 hi hz0 hz1 hz2 rfl (by decide) u7 k _ rfl (hO5.alloc (.cells #[.slice (some ⟨g, 0, none⟩) (c.size k) lc] 34)) ⟨w5.heap.size, 0, none⟩ 1 1 [.slice (some ⟨g, 0, none⟩) (c.size k) lc] rfl rfl (cell_one_new _ _ _) (by intro x hx; simp at hx; subst hx; rfl) (by unfold maxLen; omega) (by omega) (by simp; omega) ?_; intro v' w6 hown hgrow hnil hat)
    go_roundw
    case rel =>
     have hO6 := hO5.alloc (.cells #[.slice (some ⟨g, 0, none⟩) (c.size k) lc] 34)
     have hB6 := (hB5.alloc hB5.size (.cells #[.slice (some ⟨g, 0, none⟩) (c.size k) lc] 34)).grown hgrow (by have := hB5.size; simp; omega) (fun b e => by have := (hO6.lt b e).1; omega)
     have b0 := (hgrow.block _ (lt_of_block (heap_alloc_under _ h05)) (own_ne_kind hO6 (heap_alloc_under _ h05) (by decide)).symm).trans (heap_alloc_under _ h05)
     have hD6 := (HD5.out.succ HR.out).below ((Below.refl _ _).alloc (Nat.le_refl _) (.cells #[.slice (some ⟨g, 0, none⟩) (c.size k) lc] 34))
     have hD7 := hD6.grown hgrow (fun l hl e => by
      obtain ⟨cur, hcur, _⟩ := own_block (hD6.row l hl)
      exact own_ne_kind hO6 hcur (by decide) e)
     refine ⟨k + 1, _, _, by omega, rfl, by go_num, b0, ?_, hD7, hB6⟩
     rw [rowsV_succ, rowsV_congr _ gs _ lcs c k (fun l hl => by constructor <;> simp <;> omega)]
     simpa using hown
    case measure => simp [intOf]; omega
   ·skip
    have HA := Lib.hid (stAt_any sa la ca va c xs wr (S.keepB (S.below hB) (fun _ _ => rfl)) R k (by omega))
    rw [c.lt_sk he] at HA
    go_wp2_with fail
    refine HA.out.mono ?_
    rintro e w2 ⟨⟨v, rfl, hv⟩, hb2⟩
    clear HA
    have HV := Lib.hid hv
    clear hv
    have HB := Lib.hid (stAt_any sb lb cb vb c ys w2 (T.below (hB.trans (hb2.mono hB.size))) R k (by omega))
    rw [c.lt_sk he] at HB
    go_wp2_with fail
    refine HB.out.mono ?_
    rintro e w3 ⟨⟨u, rfl, hu⟩, hb3⟩
    clear HB
    have hv3 := HV.out.ok.below hb3 HV.out.ok.lt.1 HV.out.ok.lt.2.1 HV.out.ok.lt.2.2
    have HJ := Lib.hid (J.sk k v u w3 (by omega) he hv3 hu.ok)
    clear hv3 hu
    have kb3 := hb2.trans (hb3.mono hb2.size)
    have q3 : w3.cell? ⟨w.heap.size, 0, none⟩ = some (.func (.func 167) #[] #[]) := (kb3.cell (p := ⟨w.heap.size, 0, none⟩) hl0).trans q0
    clear q0
    go_wp2_with fail
    refine HJ.out.mono ?_
    rintro e w4 ⟨rfl, hL4, hg4⟩
    clear HJ
    have kb4 := kb3.grown hg4 kb3.size (fun b e => by cases e; exact HV.out.c1)
    have hlen := hL4.len
    have HC := Lib.hid (skCellsN_any v.a v.g v.cb v.cap (c.size k) c k _ _ (hL4.sk he) hlen (by omega) (by omega))
    clear hL4 hlen q3 HV
    go_wp2_with fail
    refine HC.out.mono ?_
    rintro e w5 ⟨⟨g, lc, rfl, ho⟩, hb5⟩
    clear HC
    have kb5 := kb4.trans (hb5.mono kb4.size)
    have hO5 := own_below hO kb5
    have hD5 := hD.below kb5
    have h05 := (kb5.block _ hl0).trans h0
    have hB5 := hB.trans (kb5.mono hB.size)
    have sz5 := hB5.size
    have hbs : w.heap.size + 1 ≤ w4.heap.size := by have := kb4.size; omega
    have hr5 := own_base ho hbs
    clear hO hD h0 hB kb5 kb4 kb3 hb5 hb3 hb2 ho
    have HR := Lib.hid hr5
    have HD5 := Lib.hid hD5
    clear hr5 hD5
    go_wp2_with (at_builtin; refine wpList_append_own_at _ rfl (.tmp 46) (.tmp 49) 349 rfl (w.heap.size + 1) 34 i0 (.slice none 0 0) 1 24 Tryz.underlying349 hi hz0 hz1 hz2 rfl (by decide) u7 k _ rfl (hO5.alloc (.cells #[.slice (some ⟨g, 0, none⟩) (c.size k) lc] 34)) ⟨w5.heap.size, 0, none⟩ 1 1 [.slice (some ⟨g, 0, none⟩) (c.size k) lc] rfl rfl (cell_one_new _ _ _) (by intro x hx; simp at hx; subst hx; rfl) (by unfold maxLen; omega) (by omega) (by simp; omega) ?_; intro v' w6 hown hgrow hnil hat)
    go_roundw
    case rel =>
     have hO6 := hO5.alloc (.cells #[.slice (some ⟨g, 0, none⟩) (c.size k) lc] 34)
     have hB6 := (hB5.alloc hB5.size (.cells #[.slice (some ⟨g, 0, none⟩) (c.size k) lc] 34)).grown hgrow (by have := hB5.size; simp; omega) (fun b e => by have := (hO6.lt b e).1; omega)
     have b0 := (hgrow.block _ (lt_of_block (heap_alloc_under _ h05)) (own_ne_kind hO6 (heap_alloc_under _ h05) (by decide)).symm).trans (heap_alloc_under _ h05)
     have hD6 := (HD5.out.succ HR.out).below ((Below.refl _ _).alloc (Nat.le_refl _) (.cells #[.slice (some ⟨g, 0, none⟩) (c.size k) lc] 34))
     have hD7 := hD6.grown hgrow (fun l hl e => by
      obtain ⟨cur, hcur, _⟩ := own_block (hD6.row l hl)
      exact own_ne_kind hO6 hcur (by decide) e)
     refine ⟨k + 1, _, _, by omega, rfl, by go_num, b0, ?_, hD7, hB6⟩
     rw [rowsV_succ, rowsV_congr _ gs _ lcs c k (fun l hl => by constructor <;> simp <;> omega)]
     simpa using hown
    case measure => simp [intOf]; omega
  ·obtain rfl : k = c.b + 1 := by omega
   obtain ⟨og, oc, hv⟩ := own_succ hO
   subst hv
   clear q0 hsp
   go_wp2_with fail
   have S1 := S.below hB
   have og1 := (hO.lt og rfl).1
   have HDr := Lib.hid hD
   have HOr := Lib.hid hO
   have HBr := Lib.hid hB
   clear hD hO hB h0
   go_loopw [57] (fun j wr2 => ∃ k : Nat, k ≤ c.b + 1 ∧ j = .int .i64 k ∧ StackOk wr2 sa la ca va c (fun l => if l < k then zipI f (xs l) (ys l) else xs l) ∧ Upd (cellsOf c va) w wr2 ∧
    wr2.ownsRow (w.heap.size + 1) 34 1 (.slice (some ⟨og, 0, none⟩) (c.b + 1) oc) (c.b + 1) (rowsV gs lcs c (c.b + 1)) ∧ Rowed (w.heap.size + 1) wr2 gs lcs c (fun l => zipI f (xs l) (ys l)) (c.b + 1)) (fun j _ => c.b + 1 - (intOf j).toNat)
   case atStart => exact ⟨0, by omega, rfl, by simpa using S1, Upd.of_below HBr.out, HOr.out, HDr.out⟩
   case round =>
    obtain ⟨k, hk, rfl, hS, hU, hO, hD⟩ := hrel
    by_cases hlt2 : k < c.b + 1
    ·have hrow := hD.row k hlt2
     have hgk := (hrow.lt (gs k) rfl).1
     have hcb := (S.lv k (by omega)).lt.2.2
     have HL := Lib.hid (stLoad_any sa la ca (gs k) (lcs k) va c _ _ hS R k (by omega) (zipI f (xs k) (ys k)) (hlenZ k (by omega)) (own_base hrow (by omega)) (by omega))
     have hce := (hO.cellAt k (by omega)).trans (rowsV_at gs lcs c (c.b + 1) k hlt2)
     have hkS := Lib.hid (And.intro hU (And.intro hO hD))
     clear hU hO hD hrow hS
     go_wp2_with fail
     refine HL.out.mono ?_
     rintro e w3 ⟨rfl, hS3, hg3⟩
     go_wp2_with fail
     go_roundw
     case rel =>
      obtain ⟨hU, hO, hD⟩ := hkS.out
      have e : setAt (fun l => if l < k then zipI f (xs l) (ys l) else xs l) k (zipI f (xs k) (ys k)) = fun l => if l < k + 1 then zipI f (xs l) (ys l) else xs l := by
       funext l
       unfold setAt
       by_cases h1 : l = k
       ·subst h1; simp
       ·by_cases h2 : l < k
        ·simp [h1, h2, Nat.lt_succ_of_lt h2]
        ·have : ¬ l < k + 1 := by omega
         simp [h1, h2, this]
      rw [e] at hS3
      have hU2 := hU.trans (Upd.of_grown (F := cellsOf c va) hg3 ⟨k, by omega, rfl⟩)
      have hO2 := hO.kept hg3 (.inr (by intro e; have : og = (va k).cb := Option.some.inj e; omega))
      have hD2 := hD.grown hg3 (fun l hl e => by have := Option.some.inj e; have := ((hD.row l hl).lt (gs l) rfl).1; omega)
      (repeat apply Exists.intro)
      exact ⟨⟨k + 1, by omega, by go_num, hS3, hU2, hO2, hD2⟩, rfl⟩
     case measure => simp [intOf]; omega
    ·obtain rfl : k = c.b + 1 := by omega
     go_wp2
     rw [Exit.noGoto_ret]
     go_ret
     exact ⟨rfl, hS, hU⟩
theorem mAll169_any (sa la ca sb lb cb : Nat) (va vb : Nat → Lv) (c : Cfg) (f : Int → Int → Int) (xs ys : Nat → List Int) (w : World) (S : StackOk w sa la ca va c xs) (T : StackOk w sb lb cb vb c ys) (R : c.Ok) (J : Joins 169 c f xs ys) :
  Calls Tryz.prog 168 #[.agg #[.func (.func 169) #[] #[]], .pointer (some ⟨sa, 0, none⟩), .pointer (some ⟨sb, 0, none⟩)] w fun e w' => e = .returned (.int .i64 0) ∧ StackOk w' sa la ca va c (fun l => if l < c.b + 1 then zipI f (xs l) (ys l) else xs l) ∧ Upd (cellsOf c va) w w' := by
 have hb1 := R.b1
 have hb2' := R.b2
 obtain ⟨i0, hi, hz0, hz1, hz2⟩ := info_parts Tryz.info34
 have hb0 : Below w.heap.size w (w.alloc (.cells #[.func (.func 169) #[] #[]] 293)) := (Below.refl _ _).alloc (Nat.le_refl _) _
 have HK := Lib.hid (mAlike_any sa la ca sb lb cb va vb c xs ys _ (S.below hb0) (T.below hb0))
 have hlenZ : ∀ l, l ≤ c.b → (zipI f (xs l) (ys l)).length = c.size l := fun l hl => by
  have h1 := (S.lv l hl).len
  have h2 := (T.lv l hl).len
  unfold zipI; simp [h1, h2]
 go_enter Tryz.func168, Tryz.ntmps168
 go_wp2_with fail
 go_step3
 go_wp2_with fail
 refine HK.out.mono ?_
 rintro e w1 ⟨rfl, hb⟩
 have k1 := below_alloc hb
 have hx1 : w1.heap[w.heap.size]? = some (.cells #[.func (.func 169) #[] #[]] 293 (0, 0)) := (hb.block _ (by simp)).trans (heap_alloc_at _ rfl)
 have HG := Lib.hid (stConfig_any sa la ca va c xs w1 (S.below k1))
 clear hb hb0 HK
 go_wp2_with fail
 go_step3
 go_wp2_with fail
 refine HG.out.mono ?_
 rintro e w2 ⟨rfl, hb⟩
 have k2 := k1.trans (hb.mono k1.size)
 have hx2 := (hb.block _ (lt_of_block hx1)).trans hx1
 clear hb HG hx1 k1
 have hcf := fun w => cfgBits c.b c.r c.wd c.m c.s w
 go_wp2_with fail
 clear hcf
 go_loopw [7, 8, 24] (fun i b j wr => ∃ (k : Nat) (gs lcs : Nat → Nat), k ≤ c.b + 1 ∧ b = .int .i64 0 ∧ j = .int .i64 k ∧ wr.heap[w.heap.size]? = some (.cells #[.func (.func 169) #[] #[]] 293 (0, 0)) ∧
  wr.ownsRow (w.heap.size + 1) 34 1 i k (rowsV gs lcs c k) ∧ Rowed (w.heap.size + 1) wr gs lcs c (fun l => zipI f (xs l) (ys l)) k ∧ Below w.heap.size w wr) (fun i b j _ => c.b + 1 - (intOf j).toNat)
 case atStart => exact ⟨0, fun _ => 0, fun _ => 0, by omega, rfl, rfl, hx2, World.ownsRow_nil _ _ _ _, ⟨fun l hl => absurd hl (by omega)⟩, k2⟩
 case round =>
  obtain ⟨k, gs, lcs, hk, rfl, rfl, h0, hO, hD, hB⟩ := hrel
  have hl0 := lt_of_block h0
  have q0 : wr.cell? ⟨w.heap.size, 0, none⟩ = some (.func (.func 169) #[] #[]) := cell_of_heap h0 0 _ rfl
  have hsp := Cfg.size_pos R k
  have szr := hB.size
  by_cases hlt2 : k < c.b + 1
  ·by_cases he : c.keys k ≤ c.wd
   ·skip
    have HA := Lib.hid (stAt_any sa la ca va c xs wr (S.keepB (S.below hB) (fun _ _ => rfl)) R k (by omega))
    rw [c.lt_arr he] at HA
    go_wp2_with fail
    refine HA.out.mono ?_
    rintro e w2 ⟨⟨v, rfl, hv⟩, hb2⟩
    clear HA
    have HV := Lib.hid hv
    clear hv
    have HB := Lib.hid (stAt_any sb lb cb vb c ys w2 (T.below (hB.trans (hb2.mono hB.size))) R k (by omega))
    rw [c.lt_arr he] at HB
    go_wp2_with fail
    refine HB.out.mono ?_
    rintro e w3 ⟨⟨u, rfl, hu⟩, hb3⟩
    clear HB
    have hv3 := HV.out.ok.below hb3 HV.out.ok.lt.1 HV.out.ok.lt.2.1 HV.out.ok.lt.2.2
    have HJ := Lib.hid (J.arr k v u w3 (by omega) he hv3 hu.ok)
    clear hv3 hu
    have kb3 := hb2.trans (hb3.mono hb2.size)
    have q3 : w3.cell? ⟨w.heap.size, 0, none⟩ = some (.func (.func 169) #[] #[]) := (kb3.cell (p := ⟨w.heap.size, 0, none⟩) hl0).trans q0
    clear q0
    go_wp2_with fail
    refine HJ.out.mono ?_
    rintro e w4 ⟨rfl, hL4, hg4⟩
    clear HJ
    have kb4 := kb3.grown hg4 kb3.size (fun b e => by cases e; exact HV.out.c1)
    have hlen := hL4.len
    have HC := Lib.hid (aCellsN_any v.a v.g v.cb v.cap (c.size k) c k _ _ (hL4.arr he) R hlen)
    clear hL4 hlen q3 HV
    go_wp2_with fail
    refine HC.out.mono ?_
    rintro e w5 ⟨⟨g, lc, rfl, ho⟩, hb5⟩
    clear HC
    have kb5 := kb4.trans (hb5.mono kb4.size)
    have hO5 := own_below hO kb5
    have hD5 := hD.below kb5
    have h05 := (kb5.block _ hl0).trans h0
    have hB5 := hB.trans (kb5.mono hB.size)
    have sz5 := hB5.size
    have hbs : w.heap.size + 1 ≤ w4.heap.size := by have := kb4.size; omega
    have hr5 := own_base ho hbs
    clear hO hD h0 hB kb5 kb4 kb3 hb5 hb3 hb2 ho
    have HR := Lib.hid hr5
    have HD5 := Lib.hid hD5
    clear hr5 hD5
    go_wp2_with (at_builtin; refine wpList_append_own_at _ rfl (.tmp 46) (.tmp 49) 349 rfl (w.heap.size + 1) 34 i0 (.slice none 0 0) 1 24 Tryz.underlying349 hi hz0 hz1 hz2 rfl (by decide) u7 k _ rfl (hO5.alloc (.cells #[.slice (some ⟨g, 0, none⟩) (c.size k) lc] 34)) ⟨w5.heap.size, 0, none⟩ 1 1 [.slice (some ⟨g, 0, none⟩) (c.size k) lc] rfl rfl (cell_one_new _ _ _) (by intro x hx; simp at hx; subst hx; rfl) (by unfold maxLen; omega) (by omega) (by simp; omega) ?_; intro v' w6 hown hgrow hnil hat)
    go_roundw
    case rel =>
     have hO6 := hO5.alloc (.cells #[.slice (some ⟨g, 0, none⟩) (c.size k) lc] 34)
     have hB6 := (hB5.alloc hB5.size (.cells #[.slice (some ⟨g, 0, none⟩) (c.size k) lc] 34)).grown hgrow (by have := hB5.size; simp; omega) (fun b e => by have := (hO6.lt b e).1; omega)
     have b0 := (hgrow.block _ (lt_of_block (heap_alloc_under _ h05)) (own_ne_kind hO6 (heap_alloc_under _ h05) (by decide)).symm).trans (heap_alloc_under _ h05)
     have hD6 := (HD5.out.succ HR.out).below ((Below.refl _ _).alloc (Nat.le_refl _) (.cells #[.slice (some ⟨g, 0, none⟩) (c.size k) lc] 34))
     have hD7 := hD6.grown hgrow (fun l hl e => by
      obtain ⟨cur, hcur, _⟩ := own_block (hD6.row l hl)
      exact own_ne_kind hO6 hcur (by decide) e)
     refine ⟨k + 1, _, _, by omega, rfl, by go_num, b0, ?_, hD7, hB6⟩
     rw [rowsV_succ, rowsV_congr _ gs _ lcs c k (fun l hl => by constructor <;> simp <;> omega)]
     simpa using hown
    case measure => simp [intOf]; omega
   ·skip
    have HA := Lib.hid (stAt_any sa la ca va c xs wr (S.keepB (S.below hB) (fun _ _ => rfl)) R k (by omega))
    rw [c.lt_sk he] at HA
    go_wp2_with fail
    refine HA.out.mono ?_
    rintro e w2 ⟨⟨v, rfl, hv⟩, hb2⟩
    clear HA
    have HV := Lib.hid hv
    clear hv
    have HB := Lib.hid (stAt_any sb lb cb vb c ys w2 (T.below (hB.trans (hb2.mono hB.size))) R k (by omega))
    rw [c.lt_sk he] at HB
    go_wp2_with fail
    refine HB.out.mono ?_
    rintro e w3 ⟨⟨u, rfl, hu⟩, hb3⟩
    clear HB
    have hv3 := HV.out.ok.below hb3 HV.out.ok.lt.1 HV.out.ok.lt.2.1 HV.out.ok.lt.2.2
    have HJ := Lib.hid (J.sk k v u w3 (by omega) he hv3 hu.ok)
    clear hv3 hu
    have kb3 := hb2.trans (hb3.mono hb2.size)
    have q3 : w3.cell? ⟨w.heap.size, 0, none⟩ = some (.func (.func 169) #[] #[]) := (kb3.cell (p := ⟨w.heap.size, 0, none⟩) hl0).trans q0
    clear q0
    go_wp2_with fail
    refine HJ.out.mono ?_
    rintro e w4 ⟨rfl, hL4, hg4⟩
    clear HJ
    have kb4 := kb3.grown hg4 kb3.size (fun b e => by cases e; exact HV.out.c1)
    have hlen := hL4.len
    have HC := Lib.hid (skCellsN_any v.a v.g v.cb v.cap (c.size k) c k _ _ (hL4.sk he) hlen (by omega) (by omega))
    clear hL4 hlen q3 HV
    go_wp2_with fail
    refine HC.out.mono ?_
    rintro e w5 ⟨⟨g, lc, rfl, ho⟩, hb5⟩
    clear HC
    have kb5 := kb4.trans (hb5.mono kb4.size)
    have hO5 := own_below hO kb5
    have hD5 := hD.below kb5
    have h05 := (kb5.block _ hl0).trans h0
    have hB5 := hB.trans (kb5.mono hB.size)
    have sz5 := hB5.size
    have hbs : w.heap.size + 1 ≤ w4.heap.size := by have := kb4.size; omega
    have hr5 := own_base ho hbs
    clear hO hD h0 hB kb5 kb4 kb3 hb5 hb3 hb2 ho
    have HR := Lib.hid hr5
    have HD5 := Lib.hid hD5
    clear hr5 hD5
    go_wp2_with (at_builtin; refine wpList_append_own_at _ rfl (.tmp 46) (.tmp 49) 349 rfl (w.heap.size + 1) 34 i0 (.slice none 0 0) 1 24 Tryz.underlying349 hi hz0 hz1 hz2 rfl (by decide) u7 k _ rfl (hO5.alloc (.cells #[.slice (some ⟨g, 0, none⟩) (c.size k) lc] 34)) ⟨w5.heap.size, 0, none⟩ 1 1 [.slice (some ⟨g, 0, none⟩) (c.size k) lc] rfl rfl (cell_one_new _ _ _) (by intro x hx; simp at hx; subst hx; rfl) (by unfold maxLen; omega) (by omega) (by simp; omega) ?_; intro v' w6 hown hgrow hnil hat)
    go_roundw
    case rel =>
     have hO6 := hO5.alloc (.cells #[.slice (some ⟨g, 0, none⟩) (c.size k) lc] 34)
     have hB6 := (hB5.alloc hB5.size (.cells #[.slice (some ⟨g, 0, none⟩) (c.size k) lc] 34)).grown hgrow (by have := hB5.size; simp; omega) (fun b e => by have := (hO6.lt b e).1; omega)
     have b0 := (hgrow.block _ (lt_of_block (heap_alloc_under _ h05)) (own_ne_kind hO6 (heap_alloc_under _ h05) (by decide)).symm).trans (heap_alloc_under _ h05)
     have hD6 := (HD5.out.succ HR.out).below ((Below.refl _ _).alloc (Nat.le_refl _) (.cells #[.slice (some ⟨g, 0, none⟩) (c.size k) lc] 34))
     have hD7 := hD6.grown hgrow (fun l hl e => by
      obtain ⟨cur, hcur, _⟩ := own_block (hD6.row l hl)
      exact own_ne_kind hO6 hcur (by decide) e)
     refine ⟨k + 1, _, _, by omega, rfl, by go_num, b0, ?_, hD7, hB6⟩
     rw [rowsV_succ, rowsV_congr _ gs _ lcs c k (fun l hl => by constructor <;> simp <;> omega)]
     simpa using hown
    case measure => simp [intOf]; omega
  ·obtain rfl : k = c.b + 1 := by omega
   obtain ⟨og, oc, hv⟩ := own_succ hO
   subst hv
   clear q0 hsp
   go_wp2_with fail
   have S1 := S.below hB
   have og1 := (hO.lt og rfl).1
   have HDr := Lib.hid hD
   have HOr := Lib.hid hO
   have HBr := Lib.hid hB
   clear hD hO hB h0
   go_loopw [57] (fun j wr2 => ∃ k : Nat, k ≤ c.b + 1 ∧ j = .int .i64 k ∧ StackOk wr2 sa la ca va c (fun l => if l < k then zipI f (xs l) (ys l) else xs l) ∧ Upd (cellsOf c va) w wr2 ∧
    wr2.ownsRow (w.heap.size + 1) 34 1 (.slice (some ⟨og, 0, none⟩) (c.b + 1) oc) (c.b + 1) (rowsV gs lcs c (c.b + 1)) ∧ Rowed (w.heap.size + 1) wr2 gs lcs c (fun l => zipI f (xs l) (ys l)) (c.b + 1)) (fun j _ => c.b + 1 - (intOf j).toNat)
   case atStart => exact ⟨0, by omega, rfl, by simpa using S1, Upd.of_below HBr.out, HOr.out, HDr.out⟩
   case round =>
    obtain ⟨k, hk, rfl, hS, hU, hO, hD⟩ := hrel
    by_cases hlt2 : k < c.b + 1
    ·have hrow := hD.row k hlt2
     have hgk := (hrow.lt (gs k) rfl).1
     have hcb := (S.lv k (by omega)).lt.2.2
     have HL := Lib.hid (stLoad_any sa la ca (gs k) (lcs k) va c _ _ hS R k (by omega) (zipI f (xs k) (ys k)) (hlenZ k (by omega)) (own_base hrow (by omega)) (by omega))
     have hce := (hO.cellAt k (by omega)).trans (rowsV_at gs lcs c (c.b + 1) k hlt2)
     have hkS := Lib.hid (And.intro hU (And.intro hO hD))
     clear hU hO hD hrow hS
     go_wp2_with fail
     refine HL.out.mono ?_
     rintro e w3 ⟨rfl, hS3, hg3⟩
     go_wp2_with fail
     go_roundw
     case rel =>
      obtain ⟨hU, hO, hD⟩ := hkS.out
      have e : setAt (fun l => if l < k then zipI f (xs l) (ys l) else xs l) k (zipI f (xs k) (ys k)) = fun l => if l < k + 1 then zipI f (xs l) (ys l) else xs l := by
       funext l
       unfold setAt
       by_cases h1 : l = k
       ·subst h1; simp
       ·by_cases h2 : l < k
        ·simp [h1, h2, Nat.lt_succ_of_lt h2]
        ·have : ¬ l < k + 1 := by omega
         simp [h1, h2, this]
      rw [e] at hS3
      have hU2 := hU.trans (Upd.of_grown (F := cellsOf c va) hg3 ⟨k, by omega, rfl⟩)
      have hO2 := hO.kept hg3 (.inr (by intro e; have : og = (va k).cb := Option.some.inj e; omega))
      have hD2 := hD.grown hg3 (fun l hl e => by have := Option.some.inj e; have := ((hD.row l hl).lt (gs l) rfl).1; omega)
      (repeat apply Exists.intro)
      exact ⟨⟨k + 1, by omega, by go_num, hS3, hU2, hO2, hD2⟩, rfl⟩
     case measure => simp [intOf]; omega
    ·obtain rfl : k = c.b + 1 := by omega
     go_wp2
     rw [Exit.noGoto_ret]
     go_ret
     exact ⟨rfl, hS, hU⟩
end Go.Proofs.YtbhppbeepmllaaaGreatDoor
