import Derived.Test.YtbhppbeepmllaaaGreatDoorM7c9a3815
import Derived.Test.YtbhppbeepmllaaaGreatDoorMce0bf2f6
import Derived.Test.YtbhppbeepmllaaaGreatDoorM90649028
import Derived.Test.YtbhppbeepmllaaaGreatDoorM13c95f72
import Derived.Test.YtbhppbeepmllaaaGreatDoorMdb9ab3e7
set_option linter.unusedVariables false
set_option linter.unusedSimpArgs false
set_option maxRecDepth 100000
set_option maxHeartbeats 2000000
namespace Go.Proofs.YtbhppbeepmllaaaGreatDoor
open Go.RowKit

theorem own_same {w w' : World} {B : Nat} {e : TypeId} {sz : Nat} {v : Value} {n : Nat} {xs : List Value} (h : w.ownsRow B e sz v n xs) (hb : ∀ g, v.ownBlock = some g → w'.heap[g]? = w.heap[g]?) : w'.ownsRow B e sz v n xs := by
 refine ⟨h.1, ?_⟩
 rcases h.2 with h1 | ⟨g, cap, cur, h1, h2, h3, h4⟩
 ·exact .inl h1
 ·exact .inr ⟨g, cap, cur, h1, h2, (hb g (by rw [h1]; rfl)).trans h3, h4⟩
theorem StackOk.other {w w' : World} {st lb lcap : Nat} {vs us : Nat → Lv} {c : Cfg} {cs : Nat → List Int} (S : StackOk w st lb lcap vs c cs) (hF : ∀ k, cellsOf c us k → ∃ cur, w.heap[k]? = some (.cells cur 2 (0, 0))) (hu : Upd (cellsOf c us) w w')
  (hd : ∀ i, cellsOf c us i → ¬ cellsOf c vs i) : StackOk w' st lb lcap vs c cs := by
 refine ⟨(hu.block st S.lt.1 (fun h => ?_)).trans S.hd, own_same S.row (fun g hg => hu.block g ?_ (fun h => ?_)), fun l hl => (S.lv l hl).upd hu (fun k hk _ => hF k hk) (fun h => hd _ h ⟨l, hl, rfl⟩), S.sep⟩
 ·obtain ⟨cur, hc⟩ := hF _ h
  exact kind_ne S.hd hc (by decide) rfl
 ·exact (S.row.lt g hg).2
 ·obtain ⟨cur, hc⟩ := hF _ h
  exact own_ne_kind S.row hc (by decide) hg
theorem Cfg.Ok.keys_le' {c : Cfg} (h : c.Ok) (l : Nat) : c.keys l ≤ 576460752303423488 := Cfg.keys_le h l
structure Ag (P : Nat → Prop) (w : World) (ag mb n : Nat) (sd lb lcap : Nat → Nat) (vs : Nat → Nat → Lv) (c : Cfg) (cs : Nat → Nat → List Int) : Prop where
 st : AggSt w ag mb n sd
 tab : Tab w
 stk : ∀ h, 1 ≤ h → h ≤ n → StackOk w (sd h) (lb h) (lcap h) (vs h) c (cs h)
 sep : ∀ h k, 1 ≤ h → h ≤ n → 1 ≤ k → k ≤ n → h ≠ k → ∀ i, cellsOf c (vs h) i → ¬ cellsOf c (vs k) i
 pa : P ag
 pm : P mb
 pc : ∀ h, 1 ≤ h → h ≤ n → ∀ i, cellsOf c (vs h) i → P i
 p4 : ¬ P 4
variable {P : Nat → Prop} {w w' : World} {ag mb n : Nat} {sd lb lcap : Nat → Nat} {vs : Nat → Nat → Lv} {c : Cfg} {cs : Nat → Nat → List Int}
theorem Ag.below (A : Ag P w ag mb n sd lb lcap vs c cs) (hb : Below w.heap.size w w') : Ag P w' ag mb n sd lb lcap vs c cs :=
 ⟨A.st.below hb, A.tab.below hb A.tab.lt, fun h h1 h2 => (A.stk h h1 h2).below hb, A.sep, A.pa, A.pm, A.pc, A.p4⟩
theorem Ag.upd (A : Ag P w ag mb n sd lb lcap vs c cs) (h : Nat) (h1 : 1 ≤ h) (h2 : h ≤ n) (ys : Nat → List Int) (S : StackOk w' (sd h) (lb h) (lcap h) (vs h) c ys) (hu : Upd (cellsOf c (vs h)) w w') :
  Ag P w' ag mb n sd lb lcap vs c (fun k => if k = h then ys else cs k) := by
 have hF : ∀ k, cellsOf c (vs h) k → ∃ cur, w.heap[k]? = some (.cells cur 2 (0, 0)) := by
  rintro k ⟨l, hl, rfl⟩
  exact ((A.stk h h1 h2).lv l hl).cbKind
 have ha : ¬ cellsOf c (vs h) ag := fun e => by
  obtain ⟨cur, hc⟩ := hF _ e
  exact kind_ne A.st.hd hc (by decide) rfl
 have hm : ¬ cellsOf c (vs h) mb := fun e => by
  obtain ⟨cur, hc⟩ := hF _ e
  obtain ⟨D, ⟨es, clock, k1, k2⟩, hD⟩ := A.st.map.ex
  rw [hc] at k1
  cases k1
 have h4 : ¬ cellsOf c (vs h) 4 := fun e => A.p4 (A.pc h h1 h2 4 e)
 refine ⟨A.st.same (hu.block ag (lt_of_block A.st.hd) ha) (hu.block mb A.st.map.lt hm), A.tab.keep (hu.block 4 A.tab.lt h4), fun k k1 k2 => ?_, A.sep, A.pa, A.pm, A.pc, A.p4⟩
 by_cases e : k = h
 ·subst e
  simp only [if_true]
  exact S
 ·simp only [if_neg e]
  exact (A.stk k k1 k2).other hF hu (A.sep h k h1 h2 k1 k2 (fun x => e x.symm))
def lnB (v : List UInt8) (ks : List Int) : List UInt8 := v ++ ks.flatMap fun k => 32 :: Lib.itoa k
theorem lnB_join (v : List UInt8) : ∀ (ks : List Int), joinW (v :: ks.map Lib.itoa) = lnB v ks
 | [] => by simp [joinW, lnB]
 | k :: ks => by
  have ih := lnB_join (Lib.itoa k) ks
  rw [List.map_cons, joinW_cons v (by simp), ih]
  simp [lnB]
theorem lnB_line (v : List UInt8) (ks : List Int) : joinW (lineW v ks.length (fun i => ks.getD i 0)) = lnB v ks := by
 rw [← lnB_join]
 unfold lineW
 congr 2
 apply List.ext_getElem
 ·simp
 ·intro i h1 h2
  have h3 : i < ks.length := by simpa using h1
  simp [List.getD_eq_getElem?_getD, List.getElem?_eq_getElem h3]
theorem ks_ok (ks : List Int) (m : Nat) (hm : m = ks.length) (hb : ∀ k ∈ ks, -9223372036854775808 ≤ k ∧ k ≤ 9223372036854775807) : ∀ i, i < m → -9223372036854775808 ≤ ks.getD i 0 ∧ ks.getD i 0 ≤ 9223372036854775807 := by
 intro i hi
 subst hm
 rw [List.getD_eq_getElem?_getD, List.getElem?_eq_getElem hi]
 exact hb _ (List.getElem_mem hi)
theorem ln_add (A : Ag P w ag mb n sd lb lcap vs c cs) (R : c.Ok) (hn : n ≤ 32) (h key : Nat) (d M D : Int) (h1 : 1 ≤ h) (h2 : h ≤ n) (hk : key < c.keys 0) (hd : -D ≤ d ∧ d ≤ D) (hD : 0 ≤ D) (hM : 0 ≤ M) (hMD : M + D * 61 ≤ 1152921504606846976) (hm : c.m = 2 → 0 ≤ d) (hB : ∀ l, l ≤ c.b → Bd M (cs h l)) (s : ByteArray) (hs : s.data.toList = lnB [97, 100, 100] [(h : Int), (key : Int), d]) :
  Calls Tryz.prog 13 #[.pointer (some ⟨ag, 0, none⟩), .string s] w fun e w' => e = .returned (.tuple #[.string (sOf [100, 111, 110, 101]), .bool true]) ∧ Ag P w' ag mb n sd lb lcap vs c (fun k => if k = h then stFed c key d (cs h) else cs k) ∧ Upd P w w' := by
 have hkl := R.keys_le' 0
 refine agLine_ok ag s _ 162 178 (fun V w1 => V = .agg #[.int .i64 (h : Int), .bool false, .string ⟨#[]⟩, .int .u64 (key : Int), .int .i64 d] ∧ Below w.heap.size w w1) (fun V w2 => V = .agg #[] ∧ Ag P w2 ag mb n sd lb lcap vs c (fun k => if k = h then stFed c key d (cs h) else cs k) ∧ Upd P w w2) _ w ?_ ?_ ?_
 ·refine (parseAdd s (fun i => [(h : Int), (key : Int), d].getD i 0) w (hs.trans (lnB_line _ _).symm) (ks_ok [(h : Int), (key : Int), d] 3 rfl (by
  intro k hk
  simp only [List.mem_cons, List.not_mem_nil, or_false] at hk
  rcases hk with rfl | rfl | rfl <;> omega)) (Int.natCast_nonneg _) A.tab).mono ?_
  rintro e w1 ⟨rfl, hb⟩
  exact ⟨_, rfl, rfl, hb⟩
 ·rintro V w1 ⟨rfl, hb⟩
  have A1 := A.below hb
  refine (do_add ag (h : Int) (key : Int) d (.iface 178 (.agg #[])) 0 (fun w2 => Ag P w2 ag mb n sd lb lcap vs c (fun k => if k = h then stFed c key d (cs h) else cs k) ∧ Upd P w w2) w1 ?_).mono ?_
  ·intro w2 hb2
   have A2 := A1.below hb2
   refine aggAdd_any ag mb n sd h key d _ w2 A2.st hn h1 h2 ?_
   intro w3 hb3
   have A3 := A2.below hb3
   have kb := (hb.trans (hb2.mono hb.size)).trans (hb3.mono (hb.trans (hb2.mono hb.size)).size)
   refine (stUpdate_any (sd h) (lb h) (lcap h) key (vs h) c (cs h) d M D w3 (A3.stk h h1 h2) R hk hd hD hM hMD hm hB).mono ?_
   rintro e w4 ⟨rfl, S, hu⟩
   have e1 : (fun l => if l < c.b + 1 then c.lvFed l (key / 2 ^ l) d (cs h l) else cs h l) = stFed c key d (cs h) := by
    funext l; unfold stFed; simp only [Nat.lt_succ_iff]
   rw [e1] at S
   exact ⟨rfl, A3.upd h h1 h2 _ S hu, (Upd.of_below kb).trans (hu.mono (A.pc h h1 h2))⟩
  ·rintro e w2 ⟨rfl, h3⟩
   exact ⟨_, rfl, rfl, h3⟩
 ·rintro V w2 ⟨rfl, A2, u2⟩
  refine (text_done w2).mono ?_
  rintro e w3 ⟨rfl, hb⟩
  exact ⟨rfl, A2.below hb, u2.trans (Upd.of_below hb)⟩
theorem err_line (n : Int) (h0 : 0 ≤ n) (h1 : n ≤ 9) (w : World) (ht : Tab w) :
  Calls Tryz.prog 49 #[.int .i64 n] w fun e w' => e = .returned (.string (sOf ([101, 114, 114, 111, 114, 32] ++ [UInt8.ofNat (48 + n.toNat)]))) ∧ Below w.heap.size w w' := by
 refine (err_text n h0 (by omega) w ht).mono ?_
 rintro e w' ⟨rfl, hb⟩
 refine ⟨?_, hb⟩
 have : Lib.itoa n = [UInt8.ofNat (48 + n.toNat)] := by
  obtain ⟨k, rfl⟩ : ∃ k : Nat, n = k := ⟨n.toNat, by omega⟩
  rw [Lib.itoa_nonneg, Lib.decDigits, dif_pos (by omega)]
  rfl
 rw [this]
theorem ln_merge (A : Ag P w ag mb n sd lb lcap vs c cs) (R : c.Ok) (hn : n ≤ 32) (h j : Nat) (h1 : 1 ≤ h) (h2 : h ≤ n) (j1 : 1 ≤ j) (j2 : j ≤ n) (hx : ∀ l, l ≤ c.b → Small (cs h l)) (hy : ∀ l, l ≤ c.b → Small (cs j l)) (s : ByteArray) (hs : s.data.toList = lnB [109, 101, 114, 103, 101] [(h : Int), (j : Int)]) :
  Calls Tryz.prog 13 #[.pointer (some ⟨ag, 0, none⟩), .string s] w fun e w' => e = .returned (.tuple #[.string (sOf [100, 111, 110, 101]), .bool true]) ∧ Ag P w' ag mb n sd lb lcap vs c (fun k => if k = h then stZip c (· + ·) (cs h) (cs j) else cs k) ∧ Upd P w w' := by
 refine agLine_ok ag s _ 171 178 (fun V w1 => V = .agg #[.string ⟨#[109, 101, 114, 103, 101]⟩, .int .i64 (h : Int), .int .i64 (j : Int)] ∧ Below w.heap.size w w1) (fun V w2 => V = .agg #[] ∧ Ag P w2 ag mb n sd lb lcap vs c (fun k => if k = h then stZip c (· + ·) (cs h) (cs j) else cs k) ∧ Upd P w w2) _ w ?_ ?_ ?_
 ·refine (parseMerge s (fun i => [(h : Int), (j : Int)].getD i 0) w (hs.trans (lnB_line _ _).symm) (ks_ok [(h : Int), (j : Int)] 2 rfl (by
  intro k hk
  simp only [List.mem_cons, List.not_mem_nil, or_false] at hk
  rcases hk with rfl | rfl <;> omega)) A.tab).mono ?_
  rintro e w1 ⟨rfl, hb⟩
  exact ⟨_, rfl, rfl, hb⟩
 ·rintro V w1 ⟨rfl, hb⟩
  have A1 := A.below hb
  refine (do_pair ag ⟨#[109, 101, 114, 103, 101]⟩ (h : Int) (j : Int) (.iface 178 (.agg #[])) 0 (fun w2 => Ag P w2 ag mb n sd lb lcap vs c (fun k => if k = h then stZip c (· + ·) (cs h) (cs j) else cs k) ∧ Upd P w w2) w1 ?_).mono ?_
  ·intro w2 hb2
   have A2 := A1.below hb2
   have H := pair_merge ag mb n sd h j 0 (fun w2 => Ag P w2 ag mb n sd lb lcap vs c (fun k => if k = h then stZip c (· + ·) (cs h) (cs j) else cs k) ∧ Upd P w w2) w2 A2.st hn h1 h2 j1 j2 (fun w3 hb3 => ?_)
   ·exact H
   have A3 := A2.below hb3
   have kb := (hb.trans (hb2.mono hb.size)).trans (hb3.mono (hb.trans (hb2.mono hb.size)).size)
   refine (stMerge_any (sd h) (lb h) (lcap h) (sd j) (lb j) (lcap j) (vs h) (vs j) c (cs h) (cs j) w3 (A3.stk h h1 h2) (A3.stk j j1 j2) R hx hy).mono ?_
   rintro e w4 ⟨rfl, S, hu⟩
   have e1 : (fun l => if l < c.b + 1 then zipI (· + ·) (cs h l) (cs j l) else cs h l) = stZip c (· + ·) (cs h) (cs j) := by
    funext l; unfold stZip; simp only [Nat.lt_succ_iff]
   rw [e1] at S
   exact ⟨rfl, A3.upd h h1 h2 _ S hu, (Upd.of_below kb).trans (hu.mono (A.pc h h1 h2))⟩
  ·rintro e w2 ⟨rfl, h3⟩
   exact ⟨_, rfl, rfl, h3⟩
 ·rintro V w2 ⟨rfl, A2, u2⟩
  refine (text_done w2).mono ?_
  rintro e w3 ⟨rfl, hb⟩
  exact ⟨rfl, A2.below hb, u2.trans (Upd.of_below hb)⟩
theorem ln_sub (A : Ag P w ag mb n sd lb lcap vs c cs) (R : c.Ok) (hn : n ≤ 32) (h j : Nat) (h1 : 1 ≤ h) (h2 : h ≤ n) (j1 : 1 ≤ j) (j2 : j ≤ n) (hx : ∀ l, l ≤ c.b → Small (cs h l)) (hy : ∀ l, l ≤ c.b → Small (cs j l)) (hm : c.m ≠ 2) (s : ByteArray) (hs : s.data.toList = lnB [115, 117, 98, 116, 114, 97, 99, 116] [(h : Int), (j : Int)]) :
  Calls Tryz.prog 13 #[.pointer (some ⟨ag, 0, none⟩), .string s] w fun e w' => e = .returned (.tuple #[.string (sOf [100, 111, 110, 101]), .bool true]) ∧ Ag P w' ag mb n sd lb lcap vs c (fun k => if k = h then stZip c (· - ·) (cs h) (cs j) else cs k) ∧ Upd P w w' := by
 refine agLine_ok ag s _ 171 178 (fun V w1 => V = .agg #[.string ⟨#[115, 117, 98, 116, 114, 97, 99, 116]⟩, .int .i64 (h : Int), .int .i64 (j : Int)] ∧ Below w.heap.size w w1) (fun V w2 => V = .agg #[] ∧ Ag P w2 ag mb n sd lb lcap vs c (fun k => if k = h then stZip c (· - ·) (cs h) (cs j) else cs k) ∧ Upd P w w2) _ w ?_ ?_ ?_
 ·refine (parseSub s (fun i => [(h : Int), (j : Int)].getD i 0) w (hs.trans (lnB_line _ _).symm) (ks_ok [(h : Int), (j : Int)] 2 rfl (by
  intro k hk
  simp only [List.mem_cons, List.not_mem_nil, or_false] at hk
  rcases hk with rfl | rfl <;> omega)) A.tab).mono ?_
  rintro e w1 ⟨rfl, hb⟩
  exact ⟨_, rfl, rfl, hb⟩
 ·rintro V w1 ⟨rfl, hb⟩
  have A1 := A.below hb
  refine (do_pair ag ⟨#[115, 117, 98, 116, 114, 97, 99, 116]⟩ (h : Int) (j : Int) (.iface 178 (.agg #[])) 0 (fun w2 => Ag P w2 ag mb n sd lb lcap vs c (fun k => if k = h then stZip c (· - ·) (cs h) (cs j) else cs k) ∧ Upd P w w2) w1 ?_).mono ?_
  ·intro w2 hb2
   have A2 := A1.below hb2
   have H := pair_sub ag mb n sd h j 0 (fun w2 => Ag P w2 ag mb n sd lb lcap vs c (fun k => if k = h then stZip c (· - ·) (cs h) (cs j) else cs k) ∧ Upd P w w2) w2 A2.st hn h1 h2 j1 j2 (fun w3 hb3 => ?_)
   ·exact H
   have A3 := A2.below hb3
   have kb := (hb.trans (hb2.mono hb.size)).trans (hb3.mono (hb.trans (hb2.mono hb.size)).size)
   refine (stSub_any (sd h) (lb h) (lcap h) (sd j) (lb j) (lcap j) (vs h) (vs j) c (cs h) (cs j) w3 (A3.stk h h1 h2) (A3.stk j j1 j2) R hx hy hm).mono ?_
   rintro e w4 ⟨rfl, S, hu⟩
   have e1 : (fun l => if l < c.b + 1 then zipI (· - ·) (cs h l) (cs j l) else cs h l) = stZip c (· - ·) (cs h) (cs j) := by
    funext l; unfold stZip; simp only [Nat.lt_succ_iff]
   rw [e1] at S
   exact ⟨rfl, A3.upd h h1 h2 _ S hu, (Upd.of_below kb).trans (hu.mono (A.pc h h1 h2))⟩
  ·rintro e w2 ⟨rfl, h3⟩
   exact ⟨_, rfl, rfl, h3⟩
 ·rintro V w2 ⟨rfl, A2, u2⟩
  refine (text_done w2).mono ?_
  rintro e w3 ⟨rfl, hb⟩
  exact ⟨rfl, A2.below hb, u2.trans (Upd.of_below hb)⟩
theorem ln_subno (A : Ag P w ag mb n sd lb lcap vs c cs) (R : c.Ok) (hn : n ≤ 32) (h j : Nat) (h1 : 1 ≤ h) (h2 : h ≤ n) (j1 : 1 ≤ j) (j2 : j ≤ n) (hm : c.m = 2) (s : ByteArray) (hs : s.data.toList = lnB [115, 117, 98, 116, 114, 97, 99, 116] [(h : Int), (j : Int)]) :
  Calls Tryz.prog 13 #[.pointer (some ⟨ag, 0, none⟩), .string s] w fun e w' => e = .returned (.tuple #[.string (sOf [101, 114, 114, 111, 114, 32, 51]), .bool true]) ∧ Below w.heap.size w w' := by
 refine agLine_err ag s _ 171 3 (by decide) (fun V w1 => V = .agg #[.string ⟨#[115, 117, 98, 116, 114, 97, 99, 116]⟩, .int .i64 (h : Int), .int .i64 (j : Int)] ∧ Below w.heap.size w w1) (fun w2 => Below w.heap.size w w2) _ w ?_ ?_ ?_
 ·refine (parseSub s (fun i => [(h : Int), (j : Int)].getD i 0) w (hs.trans (lnB_line _ _).symm) (ks_ok [(h : Int), (j : Int)] 2 rfl (by
  intro k hk
  simp only [List.mem_cons, List.not_mem_nil, or_false] at hk
  rcases hk with rfl | rfl <;> omega)) A.tab).mono ?_
  rintro e w1 ⟨rfl, hb⟩
  exact ⟨_, rfl, rfl, hb⟩
 ·rintro V w1 ⟨rfl, hb⟩
  have A1 := A.below hb
  refine (do_pair ag ⟨#[115, 117, 98, 116, 114, 97, 99, 116]⟩ (h : Int) (j : Int) .nilIface 3 (fun w2 => Below w.heap.size w w2) w1 ?_)
  intro w2 hb2
  have A2 := A1.below hb2
  have H := pair_sub ag mb n sd h j 3 (fun w2 => Below w.heap.size w w2) w2 A2.st hn h1 h2 j1 j2 (fun w3 hb3 => ?_)
  ·exact H
  have A3 := A2.below hb3
  have kb := (hb.trans (hb2.mono hb.size)).trans (hb3.mono (hb.trans (hb2.mono hb.size)).size)
  refine (stSub_no (sd h) (lb h) (lcap h) (sd j) (lb j) (lcap j) (vs h) (vs j) c (cs h) (cs j) w3 (A3.stk h h1 h2) (A3.stk j j1 j2) R hm).mono ?_
  rintro e w4 ⟨rfl, hb4⟩
  exact ⟨rfl, kb.trans (hb4.mono kb.size)⟩
 ·rintro w2 hb2
  refine (err_line 3 (by decide) (by decide) w2 (A.tab.below hb2 A.tab.lt)).mono ?_
  rintro e w3 ⟨rfl, hb⟩
  exact ⟨rfl, hb2.trans (hb.mono hb2.size)⟩
theorem ln_addno (A : Ag P w ag mb n sd lb lcap vs c cs) (R : c.Ok) (hn : n ≤ 32) (h key : Nat) (d : Int) (h1 : 1 ≤ h) (h2 : h ≤ n) (hk : key < c.keys 0) (hd : d < 0) (hd2 : -1152921504606846976 ≤ d) (hm : c.m = 2) (s : ByteArray) (hs : s.data.toList = lnB [97, 100, 100] [(h : Int), (key : Int), d]) :
  Calls Tryz.prog 13 #[.pointer (some ⟨ag, 0, none⟩), .string s] w fun e w' => e = .returned (.tuple #[.string (sOf [101, 114, 114, 111, 114, 32, 51]), .bool true]) ∧ Below w.heap.size w w' := by
 have hkl := R.keys_le' 0
 refine agLine_err ag s _ 162 3 (by decide) (fun V w1 => V = .agg #[.int .i64 (h : Int), .bool false, .string ⟨#[]⟩, .int .u64 (key : Int), .int .i64 d] ∧ Below w.heap.size w w1) (fun w2 => Below w.heap.size w w2) _ w ?_ ?_ ?_
 ·refine (parseAdd s (fun i => [(h : Int), (key : Int), d].getD i 0) w (hs.trans (lnB_line _ _).symm) (ks_ok [(h : Int), (key : Int), d] 3 rfl (by
  intro k hk
  simp only [List.mem_cons, List.not_mem_nil, or_false] at hk
  rcases hk with rfl | rfl | rfl <;> omega)) (Int.natCast_nonneg _) A.tab).mono ?_
  rintro e w1 ⟨rfl, hb⟩
  exact ⟨_, rfl, rfl, hb⟩
 ·rintro V w1 ⟨rfl, hb⟩
  have A1 := A.below hb
  refine (do_add ag (h : Int) (key : Int) d .nilIface 3 (fun w2 => Below w.heap.size w w2) w1 ?_)
  intro w2 hb2
  have A2 := A1.below hb2
  have H := aggAdd_all ag mb n sd h key d 3 (fun w2 => Below w.heap.size w w2) w2 A2.st hn h1 h2 (fun w3 hb3 => ?_)
  ·exact H
  have A3 := A2.below hb3
  have kb := (hb.trans (hb2.mono hb.size)).trans (hb3.mono (hb.trans (hb2.mono hb.size)).size)
  refine (stUpdate_no (sd h) (lb h) (lcap h) key (vs h) c (cs h) d w3 (A3.stk h h1 h2) R hk hd hd2 hm).mono ?_
  rintro e w4 ⟨rfl, hb4⟩
  exact ⟨rfl, kb.trans (hb4.mono kb.size)⟩
 ·rintro w2 hb2
  refine (err_line 3 (by decide) (by decide) w2 (A.tab.below hb2 A.tab.lt)).mono ?_
  rintro e w3 ⟨rfl, hb⟩
  exact ⟨rfl, hb2.trans (hb.mono hb2.size)⟩
end Go.Proofs.YtbhppbeepmllaaaGreatDoor

namespace Go.Proofs.YtbhppbeepmllaaaGreatDoor
open Go.RowKit

theorem query_heavy2 (ag mb n : Nat) (sd : Nat → Nat) (h g cc : Nat) (k0 k1 : Int) (P : Option Addr → Nat → Nat → World → Prop) (w : World) (A : AggSt w ag mb n sd) (hn : n ≤ 32) (h1 : 1 ≤ h) (h2 : h ≤ n) (hg : g < w.heap.size) (hp0 : w.cell? ⟨g, 1, none⟩ = some (.int .i64 k0)) (hp1 : w.cell? ⟨g, 2, none⟩ = some (.int .i64 k1))
  (HU : ∀ w1, Below w.heap.size w w1 → Calls Tryz.prog 123 #[.pointer (some ⟨sd h, 0, none⟩), .int .i64 k0, .int .i64 k1] w1 fun e w' => ∃ fo fm fc, e = .returned (.tuple #[.slice fo fm fc, .int .i64 0]) ∧ P fo fm fc w') :
  Calls Tryz.prog 82 #[.pointer (some ⟨ag, 0, none⟩), .agg #[.string ⟨#[104, 101, 97, 118, 121]⟩, .int .i64 h, .slice (some ⟨g, 1, none⟩) 2 cc]] w fun e w' => ∃ fo fm fc, e = .returned (.tuple #[.iface 194 (.agg #[.slice fo fm fc]), .int .i64 0]) ∧ P fo fm fc w' := by
 obtain ⟨W1, hW1⟩ : ∃ W1, w.alloc (.cells #[.string ⟨#[104, 101, 97, 118, 121]⟩, .int .i64 h, .slice (some ⟨g, 1, none⟩) 2 cc] 168) = W1 := ⟨_, rfl⟩
 have b1 : Below w.heap.size w W1 := by rw [← hW1]; exact (Below.refl _ _).alloc (Nat.le_refl _) _
 have x1 : W1.heap[w.heap.size]? = some (.cells #[.string ⟨#[104, 101, 97, 118, 121]⟩, .int .i64 h, .slice (some ⟨g, 1, none⟩) 2 cc] 168 (0, 0)) := by rw [← hW1]; exact heap_alloc_at _ rfl
 have A1 := A.below b1
 have q0 : W1.cell? ⟨ag, 0, none⟩ = some (.map (some mb)) := cell_of_heap A1.hd 0 _ rfl
 have y0 : W1.cell? ⟨w.heap.size, 1, none⟩ = some (.int .i64 h) := cell_of_heap x1 1 _ rfl
 have hla := lt_of_block A1.hd
 have hlx := lt_of_block x1
 have HX := Lib.hid (And.intro x1 b1)
 have HU' := Lib.hid HU
 have hsz : W1.heap.size = w.heap.size + 1 := by rw [← hW1]; simp
 have HS := Lib.hid hsz
 clear hsz
 clear b1 x1 HU A
 go_enter Tryz.func82, Tryz.ntmps82
 go_wp2_with fail
 have KA : ∀ w', Below W1.heap.size W1 w' → (Below W1.heap.size W1 w' ∧ w'.cell? ⟨ag, 0, none⟩ = some (.map (some mb)) ∧ w'.cell? ⟨w.heap.size, 1, none⟩ = some (.int .i64 h) ∧ (Instr.lookup 215 (.map (some mb)) (.int .i64 (h : Int)) true).run Tryz.prog w' = .ok (.tuple #[.agg #[.pointer (some ⟨sd h, 0, none⟩), .pointer none], .bool true]) w') :=
  fun w' hb => ⟨hb, (hb.cell (p := ⟨ag, 0, none⟩) hla).trans q0, (hb.cell (p := ⟨w.heap.size, 1, none⟩) hlx).trans y0, (A1.below hb).map.look hn h h1 h2⟩
 go_region_held3 (fun w' => Below W1.heap.size W1 w' ∧ w'.cell? ⟨ag, 0, none⟩ = some (.map (some mb)) ∧ w'.cell? ⟨w.heap.size, 1, none⟩ = some (.int .i64 h) ∧ (Instr.lookup 215 (.map (some mb)) (.int .i64 (h : Int)) true).run Tryz.prog w' = .ok (.tuple #[.agg #[.pointer (some ⟨sd h, 0, none⟩), .pointer none], .bool true]) w')
  (first | (refine KA _ ?_; repeat' (first | exact Below.refl _ _ | refine Below.drew ?_ | refine Below.alloc ?_ (by simp) _ | refine Below.setCell ?_ (by simp) _)))
  (fail)
 all_goals (
  obtain ⟨W2, hW2⟩ : ∃ W2, (W1.alloc (.cells #[.pointer (some ⟨sd h, 0, none⟩), .pointer none] 156)).drew = W2 := ⟨_, rfl⟩
  rw [hW2]
  obtain ⟨x1, b1⟩ := HX.out
  have k2 : Below W1.heap.size W1 W2 := by rw [← hW2]; exact ((Below.refl _ _).alloc (Nat.le_refl _) _).drew
  have z2 : W2.heap[W1.heap.size]? = some (.cells #[.pointer (some ⟨sd h, 0, none⟩), .pointer none] 156 (0, 0)) := by rw [← hW2]; exact heap_alloc_at _ rfl
  have x2 := (k2.block _ hlx).trans x1
  have p0 : W2.cell? ⟨W1.heap.size, 0, none⟩ = some (.pointer (some ⟨sd h, 0, none⟩)) := cell_of_heap z2 0 _ rfl
  have p1 : W2.cell? ⟨W1.heap.size, 1, none⟩ = some (.pointer none) := cell_of_heap z2 1 _ rfl
  have b2 : Below w.heap.size w W2 := b1.trans (k2.mono b1.size)
  have y1 : W2.cell? ⟨w.heap.size, 0, none⟩ = some (.string ⟨#[104, 101, 97, 118, 121]⟩) := cell_of_heap x2 0 _ rfl
  have y2 : W2.cell? ⟨w.heap.size, 2, none⟩ = some (.slice (some ⟨g, 1, none⟩) 2 cc) := cell_of_heap x2 2 _ rfl
  have hx2 := lt_of_block x2
  have hT := Lib.hid fun (w3 : World) => thing_stack (sd h) w3
  have Hb := Lib.hid b2
  clear hW2 x1 b1 k2 z2 x2 b2 A1 q0 y0 hW1
  go_wp2_with fail
  refine (hT.out _).mono ?_
  rintro e w3 ⟨rfl, hb3⟩
  have b3 := Hb.out.trans (hb3.mono Hb.out.size)
  have y1' := (hb3.cell (p := ⟨w.heap.size, 0, none⟩) hx2).trans y1
  have y2' := (hb3.cell (p := ⟨w.heap.size, 2, none⟩) hx2).trans y2
  have hp0' := (b3.cell (p := ⟨g, 1, none⟩) hg).trans hp0
  have hp1' := (b3.cell (p := ⟨g, 2, none⟩) hg).trans hp1
  have hx3 : w.heap.size < w3.heap.size := Nat.lt_of_lt_of_le hx2 hb3.size
  have hg3 : g < w3.heap.size := Nat.lt_of_lt_of_le hg b3.size
  have HB3 := Lib.hid b3
  clear hT hb3 b3 Hb y1 y2 p0 p1 hp0 hp1
  go_wp2_with fail
  refine wp_region_mixA w3.heap.size [0, 1, 2, 3, 4, 5, 6, 7, 8] [9, 10, 11, 12, 13, 14] (by kernel_rfl) (by kernel_rfl) rfl ?_
  simp only [opsAt, List.map_cons, List.map_nil, List.getElem?_toArray, List.getElem?_cons_zero, List.getElem?_cons_succ, Option.getD_some]
  have r0 := fun k : After w3.heap.size w3 => k.cell hx3 y2'
  have r1 := fun k : After w3.heap.size w3 => k.cell hg3 hp0'
  have r2 := fun k : After w3.heap.size w3 => k.cell hg3 hp1'
  repeat (go_big_quiet_step (fail))
  refine wpQuiet_nil ?_
  intro kk
  unfold calmQ
  have kb := kk.h
  clear r0 r1 r2 y1' y2' hp0' hp1'
  obtain ⟨w4, hw4⟩ : ∃ w4, kk.w = w4 := ⟨_, rfl⟩
  rw [hw4] at kb
  rw [hw4]
  clear hw4
  have HC := Lib.hid (HU'.out w4 (HB3.out.trans (kb.mono HB3.out.size)))
  clear HU' kb HB3
  go_wp2_with fail
  refine HC.out.mono ?_
  rintro e w5 ⟨fo, fm, fc, rfl, hP⟩
  have HP := Lib.hid hP
  clear HC hP
  go_wp2_with fail
  go_ret2
  exact ⟨fo, fm, fc, rfl, HP.out⟩)
theorem query_export2 (ag mb n : Nat) (sd : Nat → Nat) (h : Nat) (P : Option Addr → Nat → Nat → World → Prop) (w : World) (A : AggSt w ag mb n sd) (hn : n ≤ 32) (h1 : 1 ≤ h) (h2 : h ≤ n)
  (HU : ∀ w1, Below w.heap.size w w1 → Calls Tryz.prog 118 #[.pointer (some ⟨sd h, 0, none⟩)] w1 fun e w' => ∃ fo fm fc, e = .returned (.slice fo fm fc) ∧ P fo fm fc w') :
  Calls Tryz.prog 82 #[.pointer (some ⟨ag, 0, none⟩), .agg #[.string ⟨#[101, 120, 112, 111, 114, 116]⟩, .int .i64 h, .slice none 0 0]] w fun e w' => ∃ fo fm fc, e = .returned (.tuple #[.iface 201 (.agg #[.slice fo fm fc]), .int .i64 0]) ∧ P fo fm fc w' := by
 obtain ⟨W1, hW1⟩ : ∃ W1, w.alloc (.cells #[.string ⟨#[101, 120, 112, 111, 114, 116]⟩, .int .i64 h, .slice none 0 0] 168) = W1 := ⟨_, rfl⟩
 have b1 : Below w.heap.size w W1 := by rw [← hW1]; exact (Below.refl _ _).alloc (Nat.le_refl _) _
 have x1 : W1.heap[w.heap.size]? = some (.cells #[.string ⟨#[101, 120, 112, 111, 114, 116]⟩, .int .i64 h, .slice none 0 0] 168 (0, 0)) := by rw [← hW1]; exact heap_alloc_at _ rfl
 have A1 := A.below b1
 have q0 : W1.cell? ⟨ag, 0, none⟩ = some (.map (some mb)) := cell_of_heap A1.hd 0 _ rfl
 have y0 : W1.cell? ⟨w.heap.size, 1, none⟩ = some (.int .i64 h) := cell_of_heap x1 1 _ rfl
 have hla := lt_of_block A1.hd
 have hlx := lt_of_block x1
 have HX := Lib.hid (And.intro x1 b1)
 have HU' := Lib.hid HU
 have hsz : W1.heap.size = w.heap.size + 1 := by rw [← hW1]; simp
 have HS := Lib.hid hsz
 clear hsz
 clear b1 x1 HU A
 go_enter Tryz.func82, Tryz.ntmps82
 go_wp2_with fail
 have KA : ∀ w', Below W1.heap.size W1 w' → (Below W1.heap.size W1 w' ∧ w'.cell? ⟨ag, 0, none⟩ = some (.map (some mb)) ∧ w'.cell? ⟨w.heap.size, 1, none⟩ = some (.int .i64 h) ∧ (Instr.lookup 215 (.map (some mb)) (.int .i64 (h : Int)) true).run Tryz.prog w' = .ok (.tuple #[.agg #[.pointer (some ⟨sd h, 0, none⟩), .pointer none], .bool true]) w') :=
  fun w' hb => ⟨hb, (hb.cell (p := ⟨ag, 0, none⟩) hla).trans q0, (hb.cell (p := ⟨w.heap.size, 1, none⟩) hlx).trans y0, (A1.below hb).map.look hn h h1 h2⟩
 go_region_held3 (fun w' => Below W1.heap.size W1 w' ∧ w'.cell? ⟨ag, 0, none⟩ = some (.map (some mb)) ∧ w'.cell? ⟨w.heap.size, 1, none⟩ = some (.int .i64 h) ∧ (Instr.lookup 215 (.map (some mb)) (.int .i64 (h : Int)) true).run Tryz.prog w' = .ok (.tuple #[.agg #[.pointer (some ⟨sd h, 0, none⟩), .pointer none], .bool true]) w')
  (first | (refine KA _ ?_; repeat' (first | exact Below.refl _ _ | refine Below.drew ?_ | refine Below.alloc ?_ (by simp) _ | refine Below.setCell ?_ (by simp) _)))
  (fail)
 all_goals (
  obtain ⟨W2, hW2⟩ : ∃ W2, (W1.alloc (.cells #[.pointer (some ⟨sd h, 0, none⟩), .pointer none] 156)).drew = W2 := ⟨_, rfl⟩
  rw [hW2]
  obtain ⟨x1, b1⟩ := HX.out
  have k2 : Below W1.heap.size W1 W2 := by rw [← hW2]; exact ((Below.refl _ _).alloc (Nat.le_refl _) _).drew
  have z2 : W2.heap[W1.heap.size]? = some (.cells #[.pointer (some ⟨sd h, 0, none⟩), .pointer none] 156 (0, 0)) := by rw [← hW2]; exact heap_alloc_at _ rfl
  have x2 := (k2.block _ hlx).trans x1
  have p0 : W2.cell? ⟨W1.heap.size, 0, none⟩ = some (.pointer (some ⟨sd h, 0, none⟩)) := cell_of_heap z2 0 _ rfl
  have p1 : W2.cell? ⟨W1.heap.size, 1, none⟩ = some (.pointer none) := cell_of_heap z2 1 _ rfl
  have b2 : Below w.heap.size w W2 := b1.trans (k2.mono b1.size)
  have y1 : W2.cell? ⟨w.heap.size, 0, none⟩ = some (.string ⟨#[101, 120, 112, 111, 114, 116]⟩) := cell_of_heap x2 0 _ rfl
  have hx2 := lt_of_block x2
  have hT := Lib.hid fun (w3 : World) => thing_stack (sd h) w3
  have Hb := Lib.hid b2
  clear hW2 x1 b1 k2 z2 x2 b2 A1 q0 y0 hW1
  go_wp2_with fail
  refine (hT.out _).mono ?_
  rintro e w3 ⟨rfl, hb3⟩
  have b3 := Hb.out.trans (hb3.mono Hb.out.size)
  have y1' := (hb3.cell (p := ⟨w.heap.size, 0, none⟩) hx2).trans y1
  have HC := Lib.hid (HU'.out w3 b3)
  clear hT hb3 b3 Hb y1 p0 p1 HU'
  go_wp2_with fail
  refine HC.out.mono ?_
  rintro e w4 ⟨fo, fm, fc, rfl, hP⟩
  have HP := Lib.hid hP
  clear HC hP
  go_wp2_with fail
  go_ret2
  exact ⟨fo, fm, fc, rfl, HP.out⟩)
theorem do_query2 (ag : Nat) (v : ByteArray) (h : Int) (fo : Option Addr) (fm fc : Nat) (ec : Int) (P : Value → World → Prop) (w : World)
  (HU : ∀ w1, Below w.heap.size w w1 → Calls Tryz.prog 82 #[.pointer (some ⟨ag, 0, none⟩), .agg #[.string v, .int .i64 h, .slice fo fm fc]] w1 fun e w' => ∃ r, e = .returned (.tuple #[r, .int .i64 ec]) ∧ P r w') :
  Calls Tryz.prog 51 #[.pointer (some ⟨ag, 0, none⟩), .iface 168 (.agg #[.string v, .int .i64 h, .slice fo fm fc])] w fun e w' => ∃ r, e = .returned (.tuple #[r, .int .i64 ec]) ∧ P r w' := by
 have hb : Below w.heap.size w (w.alloc (.cells #[.string v, .int .i64 h, .slice fo fm fc] 168)) := (Below.refl _ _).alloc (Nat.le_refl _) _
 have HC := Lib.hid (HU _ hb)
 clear HU hb
 have ta152 := as104_168_152
 have ta158 := as104_168_158
 have ta162 := as104_168_162
 have ta165 := as104_168_165
 have ta168 := as104_168
 go_enter Tryz.func51, Tryz.ntmps51
 go_wp2_with fail
 refine HC.out.mono ?_
 rintro e w1 ⟨r, rfl, hP⟩
 have HP := Lib.hid hP
 clear HC hP
 go_wp2_with fail
 go_ret2
 exact ⟨r, rfl, HP.out⟩
end Go.Proofs.YtbhppbeepmllaaaGreatDoor

namespace Go.Proofs.YtbhppbeepmllaaaGreatDoor
open Go.RowKit

variable {P : Nat → Prop} {w w' : World} {ag mb n : Nat} {sd lb lcap : Nat → Nat} {vs : Nat → Nat → Lv} {c : Cfg} {cs : Nat → Nat → List Int}
theorem ln_point (A : Ag P w ag mb n sd lb lcap vs c cs) (R : c.Ok) (hn : n ≤ 32) (h : Nat) (h1 : 1 ≤ h) (h2 : h ≤ n) (l key : Nat) (hl : l ≤ c.b) (hk : key < c.keys l) (hv : -9223372036854775808 ≤ c.lvTold l key (cs h l) ∧ c.lvTold l key (cs h l) ≤ 9223372036854775807) (s : ByteArray) (hs : s.data.toList = lnB [112, 111, 105, 110, 116] [(h : Int), (l : Int), (key : Int)]) :
  Calls Tryz.prog 13 #[.pointer (some ⟨ag, 0, none⟩), .string s] w fun e w' => e = .returned (.tuple #[.string (sOf ([110, 117, 109, 98, 101, 114, 32] ++ Lib.itoa (c.lvTold l key (cs h l)))), .bool true]) ∧ Below w.heap.size w w' := by
 have hkl := R.keys_le' l
 have hb2 := R.b2
 clear hb2
 have hb59 := R.b2
 refine agLine_ok ag s _ 168 182 (fun V w1 => ∃ g' c', V = .agg #[.string ⟨#[112, 111, 105, 110, 116]⟩, .int .i64 (h : Int), .slice (some ⟨g', 1, none⟩) 2 (c' - 1)] ∧ g' < w1.heap.size ∧ w1.cell? ⟨g', 1, none⟩ = some (.int .i64 (l : Int)) ∧ w1.cell? ⟨g', 2, none⟩ = some (.int .i64 (key : Int)) ∧ Below w.heap.size w w1) (fun V w2 => V = .agg #[.int .i64 (c.lvTold l key (cs h l))] ∧ Below w.heap.size w w2) _ w ?_ ?_ ?_
 ·refine (parsePoint s (fun i => ([(h : Int), (l : Int), (key : Int)] : List Int).getD i 0) w (hs.trans (lnB_line _ _).symm) (ks_ok [(h : Int), (l : Int), (key : Int)] 3 rfl (by
  intro k hk
  simp only [List.mem_cons, List.not_mem_nil, or_false] at hk
  rcases hk with rfl | rfl | rfl <;> omega)) A.tab).mono ?_
  rintro e w1 ⟨⟨g', c', rfl, hg, ho⟩, hb⟩
  exact ⟨_, rfl, g', c', rfl, (ho.lt g' rfl).2, (ho.cellAt 1 (by omega)).trans rfl, (ho.cellAt 2 (by omega)).trans rfl, hb⟩
 ·rintro V w1 ⟨g', c', rfl, hg, q1, q2, hb⟩
  have A1 := A.below hb
  refine (do_query ag ⟨#[112, 111, 105, 110, 116]⟩ (h : Int) (some ⟨g', 1, none⟩) 2 (c' - 1) (.iface 182 (.agg #[.int .i64 (c.lvTold l key (cs h l))])) 0 (fun w2 => Below w.heap.size w w2) w1 ?_).mono ?_
  ·intro w2 hb2
   have A2 := A1.below hb2
   have hg2 := Nat.lt_of_lt_of_le hg hb2.size
   refine query_point ag mb n sd h g' (c' - 1) l key (c.lvTold l key (cs h l)) (fun w3 => Below w.heap.size w w3) w2 A2.st hn h1 h2 hg2 ((hb2.cell (p := ⟨g', 1, none⟩) hg).trans q1) ((hb2.cell (p := ⟨g', 2, none⟩) hg).trans q2) (by omega) ?_
   intro w3 hb3
   have A3 := A2.below hb3
   have kb := (hb.trans (hb2.mono hb.size)).trans (hb3.mono (hb.trans (hb2.mono hb.size)).size)
   refine (stPoint_any (sd h) (lb h) (lcap h) (vs h) c (cs h) w3 (A3.stk h h1 h2) R l key hl hk).mono ?_
   rintro e w4 ⟨rfl, hb4⟩
   exact ⟨rfl, kb.trans (hb4.mono kb.size)⟩
  ·rintro e w2 ⟨rfl, h3⟩
   exact ⟨_, rfl, rfl, h3⟩
 ·rintro V w2 ⟨rfl, hb2⟩
  refine (text_number (c.lvTold l key (cs h l)) w2 (A.tab.below hb2 A.tab.lt) hv.1 hv.2).mono ?_
  rintro e w3 ⟨rfl, hb⟩
  exact ⟨rfl, hb2.trans (hb.mono hb2.size)⟩
theorem ln_range (A : Ag P w ag mb n sd lb lcap vs c cs) (R : c.Ok) (hn : n ≤ 32) (h : Nat) (h1 : 1 ≤ h) (h2 : h ≤ n) (lo hi : Nat) (r : Int) (hr : (sumI ((cov 61 0 lo hi).map fun p => c.lvTold p.1 p.2 (cs h p.1))) = r) (hlh : lo ≤ hi) (hhi : hi < 2 ^ c.b) (hv0 : ∀ l i, l ≤ c.b → i < c.keys l → -4503599627370496 ≤ c.lvTold l i (cs h l) ∧ c.lvTold l i (cs h l) ≤ 4503599627370496) (hv : -9223372036854775808 ≤ r ∧ r ≤ 9223372036854775807) (s : ByteArray) (hs : s.data.toList = lnB [114, 97, 110, 103, 101] [(h : Int), (lo : Int), (hi : Int)]) :
  Calls Tryz.prog 13 #[.pointer (some ⟨ag, 0, none⟩), .string s] w fun e w' => e = .returned (.tuple #[.string (sOf ([110, 117, 109, 98, 101, 114, 32] ++ Lib.itoa r)), .bool true]) ∧ Below w.heap.size w w' := by
 have hb59 := R.b2
 have hpw : 2 ^ c.b ≤ 2 ^ 59 := Nat.pow_le_pow_right (by decide) R.b2
 refine agLine_ok ag s _ 168 182 (fun V w1 => ∃ g' c', V = .agg #[.string ⟨#[114, 97, 110, 103, 101]⟩, .int .i64 (h : Int), .slice (some ⟨g', 1, none⟩) 2 (c' - 1)] ∧ g' < w1.heap.size ∧ w1.cell? ⟨g', 1, none⟩ = some (.int .i64 (lo : Int)) ∧ w1.cell? ⟨g', 2, none⟩ = some (.int .i64 (hi : Int)) ∧ Below w.heap.size w w1) (fun V w2 => V = .agg #[.int .i64 r] ∧ Below w.heap.size w w2) _ w ?_ ?_ ?_
 ·refine (parseRange s (fun i => ([(h : Int), (lo : Int), (hi : Int)] : List Int).getD i 0) w (hs.trans (lnB_line _ _).symm) (ks_ok [(h : Int), (lo : Int), (hi : Int)] 3 rfl (by
  intro k hk
  simp only [List.mem_cons, List.not_mem_nil, or_false] at hk
  rcases hk with rfl | rfl | rfl <;> omega)) A.tab).mono ?_
  rintro e w1 ⟨⟨g', c', rfl, hg, ho⟩, hb⟩
  exact ⟨_, rfl, g', c', rfl, (ho.lt g' rfl).2, (ho.cellAt 1 (by omega)).trans rfl, (ho.cellAt 2 (by omega)).trans rfl, hb⟩
 ·rintro V w1 ⟨g', c', rfl, hg, q1, q2, hb⟩
  have A1 := A.below hb
  refine (do_query ag ⟨#[114, 97, 110, 103, 101]⟩ (h : Int) (some ⟨g', 1, none⟩) 2 (c' - 1) (.iface 182 (.agg #[.int .i64 r])) 0 (fun w2 => Below w.heap.size w w2) w1 ?_).mono ?_
  ·intro w2 hb2
   have A2 := A1.below hb2
   have hg2 := Nat.lt_of_lt_of_le hg hb2.size
   refine query_range ag mb n sd h g' (c' - 1) lo hi r (fun w3 => Below w.heap.size w w3) w2 A2.st hn h1 h2 hg2 ((hb2.cell (p := ⟨g', 1, none⟩) hg).trans q1) ((hb2.cell (p := ⟨g', 2, none⟩) hg).trans q2) (by omega) ?_
   intro w3 hb3
   have A3 := A2.below hb3
   have kb := (hb.trans (hb2.mono hb.size)).trans (hb3.mono (hb.trans (hb2.mono hb.size)).size)
   refine (span_any (sd h) (lb h) (lcap h) (vs h) c (cs h) w3 (A3.stk h h1 h2) R lo hi hlh hhi hv0).mono ?_
   rintro e w4 ⟨rfl, hb4⟩
   exact ⟨by rw [hr], kb.trans (hb4.mono kb.size)⟩
  ·rintro e w2 ⟨rfl, h3⟩
   exact ⟨_, rfl, rfl, h3⟩
 ·rintro V w2 ⟨rfl, hb2⟩
  refine (text_number r w2 (A.tab.below hb2 A.tab.lt) hv.1 hv.2).mono ?_
  rintro e w3 ⟨rfl, hb⟩
  exact ⟨rfl, hb2.trans (hb.mono hb2.size)⟩
theorem ln_quant (A : Ag P w ag mb n sd lb lcap vs c cs) (R : c.Ok) (hn : n ≤ 32) (h : Nat) (h1 : 1 ≤ h) (h2 : h ≤ n) (k0 M : Int) (kk : Nat) (hkk : (wayI (fun l i => c.lvTold l i (cs h l)) c.b 0 k0) = kk) (k1 : 1 ≤ k0) (k2 : k0 ≤ (cs h c.b).getD 0 0) (hM : 0 ≤ M) (hv0 : ∀ l i, l ≤ c.b → i < c.keys l → -M ≤ c.lvTold l i (cs h l) ∧ c.lvTold l i (cs h l) ≤ M) (hkM : k0 + 60 * M ≤ 1152921504606846976) (hw : kk < 9223372036854775808) (s : ByteArray) (hs : s.data.toList = lnB [113, 117, 97, 110, 116, 105, 108, 101] [(h : Int), k0]) :
  Calls Tryz.prog 13 #[.pointer (some ⟨ag, 0, none⟩), .string s] w fun e w' => e = .returned (.tuple #[.string (sOf ([107, 101, 121, 32] ++ Lib.itoa (kk : Int))), .bool true]) ∧ Below w.heap.size w w' := by
 refine agLine_ok ag s _ 168 185 (fun V w1 => ∃ g' c', V = .agg #[.string ⟨#[113, 117, 97, 110, 116, 105, 108, 101]⟩, .int .i64 (h : Int), .slice (some ⟨g', 1, none⟩) 1 (c' - 1)] ∧ g' < w1.heap.size ∧ w1.cell? ⟨g', 1, none⟩ = some (.int .i64 k0) ∧ Below w.heap.size w w1) (fun V w2 => V = .agg #[.int .u64 (kk : Int)] ∧ Below w.heap.size w w2) _ w ?_ ?_ ?_
 ·refine (parseQuantile s (fun i => ([(h : Int), k0] : List Int).getD i 0) w (hs.trans (lnB_line _ _).symm) (ks_ok [(h : Int), k0] 2 rfl (by
  intro k hk
  simp only [List.mem_cons, List.not_mem_nil, or_false] at hk
  rcases hk with rfl | rfl <;> omega)) A.tab).mono ?_
  rintro e w1 ⟨⟨g', c', rfl, hg, ho⟩, hb⟩
  exact ⟨_, rfl, g', c', rfl, (ho.lt g' rfl).2, (ho.cellAt 1 (by omega)).trans rfl, hb⟩
 ·rintro V w1 ⟨g', c', rfl, hg, q1, hb⟩
  have A1 := A.below hb
  refine (do_query ag ⟨#[113, 117, 97, 110, 116, 105, 108, 101]⟩ (h : Int) (some ⟨g', 1, none⟩) 1 (c' - 1) (.iface 185 (.agg #[.int .u64 (kk : Int)])) 0 (fun w2 => Below w.heap.size w w2) w1 ?_).mono ?_
  ·intro w2 hb2
   have A2 := A1.below hb2
   have hg2 := Nat.lt_of_lt_of_le hg hb2.size
   refine query_quantile ag mb n sd h g' (c' - 1) (kk : Int) k0 (fun w3 => Below w.heap.size w w3) w2 A2.st hn h1 h2 hg2 ((hb2.cell (p := ⟨g', 1, none⟩) hg).trans q1) ?_
   intro w3 hb3
   have A3 := A2.below hb3
   have kb := (hb.trans (hb2.mono hb.size)).trans (hb3.mono (hb.trans (hb2.mono hb.size)).size)
   refine (quant_any (sd h) (lb h) (lcap h) (vs h) c (cs h) w3 (A3.stk h h1 h2) R k0 M k1 k2 hM hv0 hkM).mono ?_
   rintro e w4 ⟨rfl, hb4⟩
   exact ⟨by rw [hkk], kb.trans (hb4.mono kb.size)⟩
  ·rintro e w2 ⟨rfl, h3⟩
   exact ⟨_, rfl, rfl, h3⟩
 ·rintro V w2 ⟨rfl, hb2⟩
  refine (text_key kk w2 (A.tab.below hb2 A.tab.lt) hw).mono ?_
  rintro e w3 ⟨rfl, hb⟩
  exact ⟨rfl, hb2.trans (hb.mono hb2.size)⟩
theorem ln_quantno (A : Ag P w ag mb n sd lb lcap vs c cs) (R : c.Ok) (hn : n ≤ 32) (h : Nat) (h1 : 1 ≤ h) (h2 : h ≤ n) (k0 : Int) (hb0 : -9223372036854775808 ≤ k0 ∧ k0 ≤ 9223372036854775807) (k1 : k0 < 1 ∨ (cs h c.b).getD 0 0 < k0) (s : ByteArray) (hs : s.data.toList = lnB [113, 117, 97, 110, 116, 105, 108, 101] [(h : Int), k0]) :
  Calls Tryz.prog 13 #[.pointer (some ⟨ag, 0, none⟩), .string s] w fun e w' => e = .returned (.tuple #[.string (sOf ([101, 114, 114, 111, 114, 32, 54])), .bool true]) ∧ Below w.heap.size w w' := by
 refine agLine_err ag s _ 168 6 (by decide) (fun V w1 => ∃ g' c', V = .agg #[.string ⟨#[113, 117, 97, 110, 116, 105, 108, 101]⟩, .int .i64 (h : Int), .slice (some ⟨g', 1, none⟩) 1 (c' - 1)] ∧ g' < w1.heap.size ∧ w1.cell? ⟨g', 1, none⟩ = some (.int .i64 k0) ∧ Below w.heap.size w w1) (fun w2 => Below w.heap.size w w2) _ w ?_ ?_ ?_
 ·refine (parseQuantile s (fun i => ([(h : Int), k0] : List Int).getD i 0) w (hs.trans (lnB_line _ _).symm) (ks_ok [(h : Int), k0] 2 rfl (by
  intro k hk
  simp only [List.mem_cons, List.not_mem_nil, or_false] at hk
  rcases hk with rfl | rfl <;> omega)) A.tab).mono ?_
  rintro e w1 ⟨⟨g', c', rfl, hg, ho⟩, hb⟩
  exact ⟨_, rfl, g', c', rfl, (ho.lt g' rfl).2, (ho.cellAt 1 (by omega)).trans rfl, hb⟩
 ·rintro V w1 ⟨g', c', rfl, hg, q1, hb⟩
  have A1 := A.below hb
  refine (do_query ag ⟨#[113, 117, 97, 110, 116, 105, 108, 101]⟩ (h : Int) (some ⟨g', 1, none⟩) 1 (c' - 1) (.nilIface) 6 (fun w2 => Below w.heap.size w w2) w1 ?_)
  intro w2 hb2
  have A2 := A1.below hb2
  have hg2 := Nat.lt_of_lt_of_le hg hb2.size
  refine query_quantile_no ag mb n sd h g' (c' - 1) k0 (fun w3 => Below w.heap.size w w3) w2 A2.st hn h1 h2 hg2 ((hb2.cell (p := ⟨g', 1, none⟩) hg).trans q1) ?_
  intro w3 hb3
  have A3 := A2.below hb3
  have kb := (hb.trans (hb2.mono hb.size)).trans (hb3.mono (hb.trans (hb2.mono hb.size)).size)
  refine (quant_no (sd h) (lb h) (lcap h) (vs h) c (cs h) w3 (A3.stk h h1 h2) R k0 k1).mono ?_
  rintro e w4 ⟨rfl, hb4⟩
  exact ⟨rfl, kb.trans (hb4.mono kb.size)⟩
 ·rintro w2 hb2
  refine (err_line 6 (by decide) (by decide) w2 (A.tab.below hb2 A.tab.lt)).mono ?_
  rintro e w3 ⟨rfl, hb⟩
  exact ⟨rfl, hb2.trans (hb.mono hb2.size)⟩
end Go.Proofs.YtbhppbeepmllaaaGreatDoor

namespace Go.Proofs.YtbhppbeepmllaaaGreatDoor
open Go.RowKit

variable {P : Nat → Prop} {w w' : World} {ag mb n : Nat} {sd lb lcap : Nat → Nat} {vs : Nat → Nat → Lv} {c : Cfg} {cs : Nat → Nat → List Int}
theorem ln_heavyno (A : Ag P w ag mb n sd lb lcap vs c cs) (R : c.Ok) (hn : n ≤ 32) (h : Nat) (h1 : 1 ≤ h) (h2 : h ≤ n) (least : Int) (budget : Nat) (k1 : 1 ≤ least) (k2 : least ≤ 4611686018427387904) (k3 : budget ≤ 4096) (hno : hvGo (fun l i => c.lvTold l i (cs h l)) least budget (c.b + 1) 0 [(c.b, 0)] [] = none) (s : ByteArray) (hs : s.data.toList = lnB [104, 101, 97, 118, 121] [(h : Int), least, (budget : Int)]) :
  Calls Tryz.prog 13 #[.pointer (some ⟨ag, 0, none⟩), .string s] w fun e w' => e = .returned (.tuple #[.string (sOf ([101, 114, 114, 111, 114, 32, 55])), .bool true]) ∧ Below w.heap.size w w' := by
 refine agLine_err ag s _ 168 7 (by decide) (fun V w1 => ∃ g' c', V = .agg #[.string ⟨#[104, 101, 97, 118, 121]⟩, .int .i64 (h : Int), .slice (some ⟨g', 1, none⟩) 2 (c' - 1)] ∧ g' < w1.heap.size ∧ w1.cell? ⟨g', 1, none⟩ = some (.int .i64 least) ∧ w1.cell? ⟨g', 2, none⟩ = some (.int .i64 (budget : Int)) ∧ Below w.heap.size w w1) (fun w2 => Below w.heap.size w w2) _ w ?_ ?_ ?_
 ·refine (parseHeavy s (fun i => ([(h : Int), least, (budget : Int)] : List Int).getD i 0) w (hs.trans (lnB_line _ _).symm) (ks_ok [(h : Int), least, (budget : Int)] 3 rfl (by
  intro k hk
  simp only [List.mem_cons, List.not_mem_nil, or_false] at hk
  rcases hk with rfl | rfl | rfl <;> omega)) A.tab).mono ?_
  rintro e w1 ⟨⟨g', c', rfl, hg, ho⟩, hb⟩
  exact ⟨_, rfl, g', c', rfl, (ho.lt g' rfl).2, (ho.cellAt 1 (by omega)).trans rfl, (ho.cellAt 2 (by omega)).trans rfl, hb⟩
 ·rintro V w1 ⟨g', c', rfl, hg, q1, q2, hb⟩
  have A1 := A.below hb
  refine (do_query ag ⟨#[104, 101, 97, 118, 121]⟩ (h : Int) (some ⟨g', 1, none⟩) 2 (c' - 1) .nilIface 7 (fun w2 => Below w.heap.size w w2) w1 ?_)
  intro w2 hb2
  have A2 := A1.below hb2
  have hg2 := Nat.lt_of_lt_of_le hg hb2.size
  refine query_heavy_no ag mb n sd h g' (c' - 1) least (budget : Int) (fun w3 => Below w.heap.size w w3) w2 A2.st hn h1 h2 hg2 ((hb2.cell (p := ⟨g', 1, none⟩) hg).trans q1) ((hb2.cell (p := ⟨g', 2, none⟩) hg).trans q2) ?_
  intro w3 hb3
  have A3 := A2.below hb3
  have kb := (hb.trans (hb2.mono hb.size)).trans (hb3.mono (hb.trans (hb2.mono hb.size)).size)
  refine (heavy_any (sd h) (lb h) (lcap h) (vs h) c (cs h) w3 (A3.stk h h1 h2) R least budget k1 k2 k3).mono ?_
  rintro e w4 ⟨_, h4, hb4⟩
  exact ⟨h4 hno, kb.trans (hb4.mono kb.size)⟩
 ·rintro w2 hb2
  refine (err_line 7 (by decide) (by decide) w2 (A.tab.below hb2 A.tab.lt)).mono ?_
  rintro e w3 ⟨rfl, hb⟩
  exact ⟨rfl, hb2.trans (hb.mono hb2.size)⟩
theorem ln_heavy (A : Ag P w ag mb n sd lb lcap vs c cs) (R : c.Ok) (hn : n ≤ 32) (h : Nat) (h1 : 1 ≤ h) (h2 : h ≤ n) (least : Int) (budget : Nat) (k1 : 1 ≤ least) (k2 : least ≤ 4611686018427387904) (k3 : budget ≤ 4096) (l : List Fd) (hyes : hvGo (fun l i => c.lvTold l i (cs h l)) least budget (c.b + 1) 0 [(c.b, 0)] [] = some l) (hll : l.length ≤ 100000) (hok : ∀ f ∈ l, FdOk f) (s : ByteArray) (hs : s.data.toList = lnB [104, 101, 97, 118, 121] [(h : Int), least, (budget : Int)]) :
  Calls Tryz.prog 13 #[.pointer (some ⟨ag, 0, none⟩), .string s] w fun e w' => e = .returned (.tuple #[.string (sOf ([108, 105, 115, 116] ++ listL l)), .bool true]) ∧ Below w.heap.size w w' := by
 refine agLine_ok ag s _ 168 194 (fun V w1 => ∃ g' c', V = .agg #[.string ⟨#[104, 101, 97, 118, 121]⟩, .int .i64 (h : Int), .slice (some ⟨g', 1, none⟩) 2 (c' - 1)] ∧ g' < w1.heap.size ∧ w1.cell? ⟨g', 1, none⟩ = some (.int .i64 least) ∧ w1.cell? ⟨g', 2, none⟩ = some (.int .i64 (budget : Int)) ∧ Below w.heap.size w w1) (fun V w2 => ∃ fo fc, V = .agg #[.slice fo l.length fc] ∧ w2.ownsRow 0 200 3 (.slice fo l.length fc) l.length (fnds l) ∧ Below w.heap.size w w2) _ w ?_ ?_ ?_
 ·refine (parseHeavy s (fun i => ([(h : Int), least, (budget : Int)] : List Int).getD i 0) w (hs.trans (lnB_line _ _).symm) (ks_ok [(h : Int), least, (budget : Int)] 3 rfl (by
  intro k hk
  simp only [List.mem_cons, List.not_mem_nil, or_false] at hk
  rcases hk with rfl | rfl | rfl <;> omega)) A.tab).mono ?_
  rintro e w1 ⟨⟨g', c', rfl, hg, ho⟩, hb⟩
  exact ⟨_, rfl, g', c', rfl, (ho.lt g' rfl).2, (ho.cellAt 1 (by omega)).trans rfl, (ho.cellAt 2 (by omega)).trans rfl, hb⟩
 ·rintro V w1 ⟨g', c', rfl, hg, q1, q2, hb⟩
  have A1 := A.below hb
  refine (do_query2 ag ⟨#[104, 101, 97, 118, 121]⟩ (h : Int) (some ⟨g', 1, none⟩) 2 (c' - 1) 0 (fun r w2 => ∃ fo fc, r = .iface 194 (.agg #[.slice fo l.length fc]) ∧ w2.ownsRow 0 200 3 (.slice fo l.length fc) l.length (fnds l) ∧ Below w.heap.size w w2) w1 ?_).mono ?_
  ·intro w2 hb2
   have A2 := A1.below hb2
   have hg2 := Nat.lt_of_lt_of_le hg hb2.size
   refine (query_heavy2 ag mb n sd h g' (c' - 1) least (budget : Int) (fun fo fm fc w3 => fm = l.length ∧ w3.ownsRow 0 200 3 (.slice fo l.length fc) l.length (fnds l) ∧ Below w.heap.size w w3) w2 A2.st hn h1 h2 hg2 ((hb2.cell (p := ⟨g', 1, none⟩) hg).trans q1) ((hb2.cell (p := ⟨g', 2, none⟩) hg).trans q2) ?_).mono ?_
   ·intro w3 hb3
    have A3 := A2.below hb3
    have kb := (hb.trans (hb2.mono hb.size)).trans (hb3.mono (hb.trans (hb2.mono hb.size)).size)
    refine (heavy_any (sd h) (lb h) (lcap h) (vs h) c (cs h) w3 (A3.stk h h1 h2) R least budget k1 k2 k3).mono ?_
    rintro e w4 ⟨h4, _, hb4⟩
    obtain ⟨v, rfl, ho⟩ := h4 l hyes
    obtain ⟨fo, fc, rfl⟩ : ∃ fo fc, v = .slice fo l.length fc := by
     rcases ho.2 with ⟨hv, h0⟩ | ⟨g, cap, cur, hv, _⟩
     ·exact ⟨none, 0, by rw [hv, h0]⟩
     ·exact ⟨_, _, hv⟩
    exact ⟨fo, _, fc, rfl, rfl, ho.mono (Nat.zero_le _), kb.trans (hb4.mono kb.size)⟩
   ·rintro e w3 ⟨fo, fm, fc, rfl, rfl, ho, h3⟩
    exact ⟨_, rfl, fo, fc, rfl, ho, h3⟩
  ·rintro e w2 ⟨r, rfl, fo, fc, rfl, ho, h3⟩
   exact ⟨_, rfl, fo, fc, rfl, ho, h3⟩
 ·rintro V w2 ⟨fo, fc, rfl, ho, hb2⟩
  refine (text_list l fo fc w2 (A.tab.below hb2 A.tab.lt) hll hok ho).mono ?_
  rintro e w3 ⟨rfl, hb⟩
  exact ⟨rfl, hb2.trans (hb.mono hb2.size)⟩
theorem wv_agg (x : Int) : ∃ hi lo, wv x = .agg #[.int .i64 hi, .int .u64 lo] := by
 unfold wv; split
 ·exact ⟨_, _, rfl⟩
 ·exact ⟨_, _, rfl⟩
theorem ln_inner (A : Ag P w ag mb n sd lb lcap vs c cs) (R : c.Ok) (hn : n ≤ 32) (h j : Nat) (h1 : 1 ≤ h) (h2 : h ≤ n) (j1 : 1 ≤ j) (j2 : j ≤ n) (hm : c.m = 1) (H : InnerOk c (cs h 0) (cs j 0)) (hv : -9223372036854775807 ≤ (c.inner 0 (cs h 0) (cs j 0)) ∧ (c.inner 0 (cs h 0) (cs j 0)) ≤ 9223372036854775807) (s : ByteArray) (hs : s.data.toList = lnB [105, 110, 110, 101, 114] [(h : Int), (j : Int)]) :
  Calls Tryz.prog 13 #[.pointer (some ⟨ag, 0, none⟩), .string s] w fun e w' => e = .returned (.tuple #[.string (sOf ([119, 105, 100, 101, 32] ++ Lib.itoa (c.inner 0 (cs h 0) (cs j 0)))), .bool true]) ∧ Below w.heap.size w w' := by
 refine agLine_ok ag s _ 171 190 (fun V w1 => V = .agg #[.string ⟨#[105, 110, 110, 101, 114]⟩, .int .i64 (h : Int), .int .i64 (j : Int)] ∧ Below w.heap.size w w1) (fun V w2 => V = wv (c.inner 0 (cs h 0) (cs j 0)) ∧ Below w.heap.size w w2) _ w ?_ ?_ ?_
 ·refine (parseInner s (fun i => [(h : Int), (j : Int)].getD i 0) w (hs.trans (lnB_line _ _).symm) (ks_ok [(h : Int), (j : Int)] 2 rfl (by
  intro k hk
  simp only [List.mem_cons, List.not_mem_nil, or_false] at hk
  rcases hk with rfl | rfl <;> omega)) A.tab).mono ?_
  rintro e w1 ⟨rfl, hb⟩
  exact ⟨_, rfl, rfl, hb⟩
 ·rintro V w1 ⟨rfl, hb⟩
  have A1 := A.below hb
  obtain ⟨xh, xl, hxv⟩ := wv_agg (c.inner 0 (cs h 0) (cs j 0))
  refine (do_pair ag ⟨#[105, 110, 110, 101, 114]⟩ (h : Int) (j : Int) (.iface 190 (.agg #[.int .i64 xh, .int .u64 xl])) 0 (fun w2 => Below w.heap.size w w2) w1 ?_).mono ?_
  ·intro w2 hb2
   have A2 := A1.below hb2
   have kb2 := hb.trans (hb2.mono hb.size)
   refine (pair_inner ag mb n sd h j xh xl w2 A2.st hn h1 h2 j1 j2 (fun w3 hb3 => ?_)).mono ?_
   ·have A3 := A2.below hb3
    have := stInner_any (sd h) (lb h) (lcap h) (sd j) (lb j) (lcap j) (vs h) (vs j) c (cs h) (cs j) w3 (A3.stk h h1 h2) (A3.stk j j1 j2) R hm H
    rw [hxv] at this
    exact this
   ·rintro e w3 ⟨rfl, hb3⟩
    exact ⟨rfl, kb2.trans (hb3.mono kb2.size)⟩
  ·rintro e w2 ⟨rfl, h3⟩
   exact ⟨_, rfl, hxv.symm, h3⟩
 ·rintro V w2 ⟨rfl, hb2⟩
  refine (text_wide (c.inner 0 (cs h 0) (cs j 0)) w2 hv.1 hv.2).mono ?_
  rintro e w3 ⟨rfl, hb⟩
  exact ⟨rfl, hb2.trans (hb.mono hb2.size)⟩
end Go.Proofs.YtbhppbeepmllaaaGreatDoor

namespace Go.Proofs.YtbhppbeepmllaaaGreatDoor
open Go.RowKit

theorem LevelOk.heads217 {w : World} {v : Lv} {c : Cfg} {l : Nat} {cells : List Int} (h : LevelOk w v c l cells) : (∃ cur t, w.heap[v.a]? = some (.cells cur t (0, 0)) ∧ t ≠ 217) ∧ (∃ cur t, w.heap[v.g]? = some (.cells cur t (0, 0)) ∧ t ≠ 217) := by
 by_cases he : c.keys l ≤ c.wd
 ·exact ⟨⟨_, _, (h.arr he).hd, by decide⟩, ⟨_, _, (h.arr he).grid.hd, by decide⟩⟩
 ·exact ⟨⟨_, _, (h.sk he).hd, by decide⟩, ⟨_, _, (h.sk he).grid.hd, by decide⟩⟩
theorem StackOk.made {w w' : World} {st lb lcap : Nat} {vs : Nat → Lv} {c : Cfg} {cs : Nat → List Int} {ag mb n : Nat} {sd : Nat → Nat} (S : StackOk w st lb lcap vs c cs) (A : AggSt w ag mb n sd) (hu : Upd (fun k => k = ag ∨ k = mb) w w') : StackOk w' st lb lcap vs c cs := by
 have key : ∀ (k : Nat) (cur : Array Value) (t : TypeId), w.heap[k]? = some (Obj.cells cur t (0, 0)) → t ≠ 217 → w'.heap[k]? = w.heap[k]? := by
  intro k cur t hk ht
  refine hu.block k (lt_of_block hk) ?_
  rintro (e | e)
  ·subst e
   exact kind_ne hk A.hd ht rfl
  ·subst e
   obtain ⟨D, ⟨es, clock, k1, k2⟩, hD⟩ := A.map.ex
   rw [hk] at k1
   cases k1
 refine ⟨(key _ _ _ S.hd (by decide)).trans S.hd, own_same S.row (fun g hg => ?_), fun l hl => ?_, S.sep⟩
 ·obtain ⟨cur, h1, _⟩ := own_block S.row
  have e : lb = g := by have : some lb = some g := hg; exact Option.some.inj this
  subst e
  exact key _ _ _ h1 (by decide)
 ·have L := S.lv l hl
  obtain ⟨⟨x, t, h1, ht⟩, y, u, h2, hu2⟩ := L.heads217
  obtain ⟨z, h3⟩ := L.cbKind
  exact L.keep (key _ _ _ h1 ht) (key _ _ _ h2 hu2) (key _ _ _ h3 (by decide))
variable {P : Nat → Prop} {w w' : World} {ag mb n : Nat} {sd lb lcap : Nat → Nat} {vs : Nat → Nat → Lv} {c : Cfg} {cs : Nat → Nat → List Int}
def put1 {α : Type} (f : Nat → α) (n : Nat) (x : α) : Nat → α := fun k => if k = n then x else f k
theorem put1_same {α : Type} (f : Nat → α) (n : Nat) (x : α) : put1 f n x n = x := by simp [put1]
theorem put1_other {α : Type} (f : Nat → α) {n k : Nat} (x : α) (h : k ≠ n) : put1 f n x k = f k := by simp [put1, h]
def zeroC (c : Cfg) : Nat → List Int := fun l => List.replicate (c.size l) 0
theorem Ag.more (A : Ag P w ag mb n sd lb lcap vs c cs) (hP : ∀ k, w.heap.size ≤ k → P k) {w1 w2 : World} {st lb1 lc1 : Nat} {us : Nat → Lv} (hb : Below w.heap.size w w1) (N : NewStack w.heap.size w1 st lb1 lc1 us c (zeroC c)) (hA : AggSt w2 ag mb (n + 1) (fun h => if h = n + 1 then st else sd h)) (hu : Upd (fun k => k = ag ∨ k = mb) w1 w2) :
  Ag P w2 ag mb (n + 1) (put1 sd (n + 1) st) (put1 lb (n + 1) lb1) (put1 lcap (n + 1) lc1) (put1 vs (n + 1) us) c (put1 cs (n + 1) (zeroC c)) ∧ Upd P w w2 := by
 have A1 := A.below hb
 have lt : ∀ h, 1 ≤ h → h ≤ n → ∀ i, cellsOf c (vs h) i → i < w.heap.size := fun h h1 h2 i hi => (A.stk h h1 h2).cellsLt hi
 have ge : ∀ i, cellsOf c us i → w.heap.size ≤ i := by rintro i ⟨l, hl, rfl⟩; exact N.c1 l hl
 have hPP : Upd P w1 w2 := hu.mono (by intro k hk; rcases hk with rfl | rfl; exact A.pa; exact A.pm)
 refine ⟨⟨hA, A1.tab.keep (hPP.block 4 A1.tab.lt A.p4), fun h h1 h2 => ?_, fun h k h1 h2 k1 k2 hne i hi => ?_, A.pa, A.pm, fun h h1 h2 i hi => ?_, A.p4⟩, (Upd.of_below hb).trans hPP⟩
 ·by_cases e : h = n + 1
  ·subst e
   simp only [put1_same]
   exact N.ok.made A1.st hu
  ·simp only [put1_other _ _ e]
   exact (A1.stk h h1 (by omega)).made A1.st hu
 ·by_cases e : h = n + 1
  ·have e2 : k ≠ n + 1 := by omega
   rw [e, put1_same] at hi
   rw [put1_other _ _ e2]
   intro hk
   have := ge i hi
   have := lt k k1 (by omega) i hk
   omega
  ·rw [put1_other _ _ e] at hi
   by_cases e2 : k = n + 1
   ·rw [e2, put1_same]
    intro hk
    have := ge i hk
    have := lt h h1 (by omega) i hi
    omega
   ·rw [put1_other _ _ e2]
    exact A.sep h k h1 (by omega) k1 (by omega) hne i hi
 ·by_cases e : h = n + 1
  ·rw [e, put1_same] at hi
   exact hP i (ge i hi)
  ·rw [put1_other _ _ e] at hi
   exact A.pc h h1 (by omega) i hi
theorem NewStack.mono {B B' : Nat} {w : World} {st lb lcap : Nat} {vs : Nat → Lv} {c : Cfg} {cs : Nat → List Int} (h : NewStack B w st lb lcap vs c cs) (hB : B' ≤ B) : NewStack B' w st lb lcap vs c cs := ⟨h.ok, Nat.le_trans hB h.s1, Nat.le_trans hB h.l1, fun l hl => Nat.le_trans hB (h.c1 l hl)⟩
theorem ln_create (A : Ag P w ag mb n sd lb lcap vs c cs) (R : c.Ok) (hn : n ≤ 31) (hP : ∀ k, w.heap.size ≤ k → P k) (s64 : Int) (hs64 : -9223372036854775808 ≤ s64 ∧ s64 ≤ 9223372036854775807) (hws : IntKind.u64.wrap s64 = c.s) (s : ByteArray) (hs : s.data.toList = lnB [99, 114, 101, 97, 116, 101] [(c.b : Int), (c.r : Int), (c.wd : Int), (c.m : Int), s64]) :
  Calls Tryz.prog 13 #[.pointer (some ⟨ag, 0, none⟩), .string s] w fun e w' => e = .returned (.tuple #[.string (sOf ([104, 97, 110, 100, 108, 101, 32] ++ Lib.itoa ((n + 1 : Nat) : Int))), .bool true]) ∧ (∃ st lb1 lc1 us, Ag P w' ag mb (n + 1) (put1 sd (n + 1) st) (put1 lb (n + 1) lb1) (put1 lcap (n + 1) lc1) (put1 vs (n + 1) us) c (put1 cs (n + 1) (zeroC c))) ∧ Upd P w w' := by
 have hb1 := R.b1; have hb2 := R.b2; have hr1 := R.r1; have hr2 := R.r2; have hw1 := R.w1; have hw2 := R.w2; have hm1 := R.m1; have hm2 := R.m2
 refine agLine_ok ag s _ 152 180 (fun V w1 => V = .agg #[.int .i64 c.b, .int .i64 c.r, .int .i64 c.wd, .int .i64 c.m, .int .u64 c.s] ∧ Below w.heap.size w w1) (fun V w2 => V = .agg #[.int .i64 ((n + 1 : Nat) : Int)] ∧ (∃ st lb1 lc1 us, Ag P w2 ag mb (n + 1) (put1 sd (n + 1) st) (put1 lb (n + 1) lb1) (put1 lcap (n + 1) lc1) (put1 vs (n + 1) us) c (put1 cs (n + 1) (zeroC c))) ∧ Upd P w w2) _ w ?_ ?_ ?_
 ·refine (parseCreate s (fun i => ([(c.b : Int), (c.r : Int), (c.wd : Int), (c.m : Int), s64] : List Int).getD i 0) w (hs.trans (lnB_line _ _).symm) (ks_ok [(c.b : Int), (c.r : Int), (c.wd : Int), (c.m : Int), s64] 5 rfl (by
   intro k hk
   simp only [List.mem_cons, List.not_mem_nil, or_false] at hk
   rcases hk with rfl | rfl | rfl | rfl | rfl <;> omega)) c.s hws A.tab).mono ?_
  rintro e w1 ⟨rfl, hb⟩
  exact ⟨_, rfl, rfl, hb⟩
 ·rintro V w1 ⟨rfl, hb⟩
  refine (do_create ag c.b c.r c.wd c.m c.s (.iface 180 (.agg #[.int .i64 ((n + 1 : Nat) : Int)])) (fun st w3 => ∃ lb1 lc1 us, NewStack w.heap.size w3 st lb1 lc1 us c (zeroC c) ∧ Below w.heap.size w w3) (fun w2 => (∃ st lb1 lc1 us, Ag P w2 ag mb (n + 1) (put1 sd (n + 1) st) (put1 lb (n + 1) lb1) (put1 lcap (n + 1) lc1) (put1 vs (n + 1) us) c (put1 cs (n + 1) (zeroC c))) ∧ Upd P w w2) w1 ?_ ?_).mono ?_
  ·intro w2 hb2
   have kb := hb.trans (hb2.mono hb.size)
   refine (stNew_any c w2 R).mono ?_
   rintro e w3 ⟨⟨st, lb1, lc1, us, rfl, N⟩, hb3⟩
   exact ⟨st, rfl, lb1, lc1, us, N.mono kb.size, kb.trans (hb3.mono kb.size)⟩
  ·rintro st w3 ⟨lb1, lc1, us, N, kb⟩
   refine (made_any ag mb n sd st w3 (A.below kb).st hn).mono ?_
   rintro e w4 ⟨rfl, hA, hu⟩
   obtain ⟨h1, h2⟩ := A.more hP kb N hA hu
   exact ⟨rfl, ⟨st, lb1, lc1, us, h1⟩, h2⟩
  ·rintro e w2 ⟨rfl, h3⟩
   exact ⟨_, rfl, rfl, h3⟩
 ·rintro V w2 ⟨rfl, ⟨st, lb1, lc1, us, A2⟩, u2⟩
  refine (text_handle ((n + 1 : Nat) : Int) w2 A2.tab (by omega) (by omega)).mono ?_
  rintro e w3 ⟨rfl, hb⟩
  exact ⟨rfl, ⟨st, lb1, lc1, us, A2.below hb⟩, u2.trans (Upd.of_below hb)⟩
end Go.Proofs.YtbhppbeepmllaaaGreatDoor

namespace Go.Proofs.YtbhppbeepmllaaaGreatDoor
open Go.RowKit

theorem LevelOk.headsT {w : World} {v : Lv} {c : Cfg} {l : Nat} {cells : List Int} (h : LevelOk w v c l cells) : (∃ cur t, w.heap[v.a]? = some (.cells cur t (0, 0)) ∧ t ≠ 9 ∧ t ≠ 101) ∧ (∃ cur t, w.heap[v.g]? = some (.cells cur t (0, 0)) ∧ t ≠ 9 ∧ t ≠ 101) := by
 by_cases he : c.keys l ≤ c.wd
 ·exact ⟨⟨_, _, (h.arr he).hd, by decide⟩, ⟨_, _, (h.arr he).grid.hd, by decide⟩⟩
 ·exact ⟨⟨_, _, (h.sk he).hd, by decide⟩, ⟨_, _, (h.sk he).grid.hd, by decide⟩⟩
def AwayB (ag mb : Nat) (w : World) (r : Nat) : Prop := r ≠ 4 ∧ r ≠ ag ∧ r ≠ mb ∧ ∀ cs T fr, w.heap[r]? = some (Obj.cells cs T fr) → T = 9 ∨ T = 101
variable {P : Nat → Prop} {w w' : World} {ag mb n : Nat} {sd lb lcap : Nat → Nat} {vs : Nat → Nat → Lv} {c : Cfg} {cs : Nat → Nat → List Int}
theorem Ag.away (A : Ag P w ag mb n sd lb lcap vs c cs) {row : Option Nat} (hg : w.grownBy w' row) (hr : ∀ r, row = some r → AwayB ag mb w r) : Ag P w' ag mb n sd lb lcap vs c cs := by
 have key : ∀ (k : Nat) (cur : Array Value) (t : TypeId), w.heap[k]? = some (Obj.cells cur t (0, 0)) → t ≠ 9 ∧ t ≠ 101 → w'.heap[k]? = w.heap[k]? := by
  intro k cur t hk ht
  refine hg.block k (lt_of_block hk) (fun e => ?_)
  rcases (hr k e.symm).2.2.2 _ _ _ hk with h | h
  ·exact ht.1 h
  ·exact ht.2 h
 refine ⟨A.st.same (hg.block ag (lt_of_block A.st.hd) (fun e => (hr _ e.symm).2.1 rfl)) (hg.block mb A.st.map.lt (fun e => (hr _ e.symm).2.2.1 rfl)), A.tab.keep (hg.block 4 A.tab.lt (fun e => (hr _ e.symm).1 rfl)), fun h h1 h2 => ?_, A.sep, A.pa, A.pm, A.pc, A.p4⟩
 have S := A.stk h h1 h2
 refine ⟨(key _ _ _ S.hd (by decide)).trans S.hd, own_same S.row (fun g hg' => ?_), fun l hl => ?_, S.sep⟩
 ·obtain ⟨cur, k1, _⟩ := own_block S.row
  have e : lb h = g := by have : some (lb h) = some g := hg'; exact Option.some.inj this
  subst e
  exact key _ _ _ k1 (by decide)
 ·have L := S.lv l hl
  obtain ⟨⟨x, t, k1, ht⟩, y, u, k2, hu2⟩ := L.headsT
  obtain ⟨z, k3⟩ := L.cbKind
  exact L.keep (key _ _ _ k1 ht) (key _ _ _ k2 hu2) (key _ _ _ k3 (by decide))
def foot (ag mb n : Nat) (vs : Nat → Nat → Lv) (c : Cfg) (k : Nat) : Prop := k = ag ∨ k = mb ∨ ∃ h, 1 ≤ h ∧ h ≤ n ∧ cellsOf c (vs h) k
theorem Ag.refoot (A : Ag P w ag mb n sd lb lcap vs c cs) : Ag (foot ag mb n vs c) w ag mb n sd lb lcap vs c cs :=
 ⟨A.st, A.tab, A.stk, A.sep, .inl rfl, .inr (.inl rfl), fun h h1 h2 i hi => .inr (.inr ⟨h, h1, h2, hi⟩), by
  rintro (h | h | ⟨h, h1, h2, h3⟩)
  ·exact A.p4 (h ▸ A.pa)
  ·exact A.p4 (h ▸ A.pm)
  ·exact A.p4 (A.pc h h1 h2 4 h3)⟩
def LF (ag mb : Nat) (w : World) (k : Nat) : Prop := k = ag ∨ k = mb ∨ ∃ cur, w.heap[k]? = some (Obj.cells cur 2 (0, 0))
theorem Ag.footLF (A : Ag P w ag mb n sd lb lcap vs c cs) : ∀ k, foot ag mb n vs c k → LF ag mb w k := by
 rintro k (h | h | ⟨h, h1, h2, l, hl, rfl⟩)
 ·exact .inl h
 ·exact .inr (.inl h)
 ·exact .inr (.inr ((A.stk h h1 h2).lv l hl).cbKind)
theorem Upd.lower {F G : Nat → Prop} {a b : World} (h : Upd F a b) (hFG : ∀ k, k < a.heap.size → F k → G k) : Upd G a b := ⟨h.os, h.tape, h.output, h.size, fun k hk hn => h.block k hk (fun hf => hn (hFG k hk hf))⟩
end Go.Proofs.YtbhppbeepmllaaaGreatDoor
