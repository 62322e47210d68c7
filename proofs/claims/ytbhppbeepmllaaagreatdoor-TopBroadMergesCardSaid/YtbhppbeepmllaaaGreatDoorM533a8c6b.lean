import Derived.Test.YtbhppbeepmllaaaGreatDoorM742e5d7f
import Derived.Lib.SmallJoins
import Derived.Test.YtbhppbeepmllaaaGreatDoorM28250462
import Derived.Test.YtbhppbeepmllaaaGreatDoorWQB58ed8c42
set_option linter.unusedVariables false
set_option linter.unusedSimpArgs false
set_option maxRecDepth 100000
set_option maxHeartbeats 2000000
namespace Go.Proofs.YtbhppbeepmllaaaGreatDoor
open Go.RowKit

theorem own_mono {w : World} {B B' : Nat} {e : TypeId} {sz : Nat} {v : Value} {n : Nat} {xs : List Value} (h : w.ownsRow B' e sz v n xs) (hB : B ≤ B') : w.ownsRow B e sz v n xs := by
 refine ⟨h.1, ?_⟩
 rcases h.2 with h1 | ⟨g, cap, cur, h1, h2, h4⟩
 ·exact .inl h1
 ·exact .inr ⟨g, cap, cur, h1, Nat.le_trans hB h2, h4⟩
def lvB (cs : Nat → List Int) : Nat → List Nat
 | 0 => []
 | n + 1 => lvB cs n ++ rowB (cs n)
def hdB (c : Cfg) : List Nat := [71, 65] ++ vput c.b ++ vput c.r ++ vput c.wd ++ vput c.m ++ lowL c.s 8
def bodyB (c : Cfg) (cs : Nat → List Int) : List Nat := hdB c ++ lvB cs (c.b + 1)
def encB (c : Cfg) (cs : Nat → List Int) : List Nat := bodyB c cs ++ lowL (crcE (bodyB c cs)).toNat 4
theorem crcE_bd (l : List Nat) : 0 ≤ crcE l ∧ crcE l < 4294967296 := by
 have := bounds_u32 (wf_bits BinOp.xor IntKind.u32 IntKind.u32.max (crcF l))
 unfold crcE; omega
theorem hdB_len (c : Cfg) (R : c.Ok) : (hdB c).length ≤ 50 := by
 have := R.b2; have := R.r2; have := R.w2; have := R.m2
 have h1 := vput_len10 (u := c.b) (by omega)
 have h2 := vput_len10 (u := c.r) (by omega)
 have h3 := vput_len10 (u := c.wd) (by omega)
 have h4 := vput_len10 (u := c.m) (by omega)
 simp only [hdB, List.length_append, lowL_len, List.length_cons, List.length_nil]
 omega
theorem lvB_len (c : Cfg) (R : c.Ok) (cs : Nat → List Int) (hs : ∀ l, l ≤ c.b → Small (cs l)) (hl : ∀ l, l ≤ c.b → (cs l).length = c.size l) : ∀ n, n ≤ c.b + 1 → (lvB cs n).length ≤ 10240 * n
 | 0, _ => by simp [lvB]
 | n + 1, h => by
  have ih := lvB_len c R cs hs hl n (by omega)
  have h1 := rowB_len (cs n) (hs n (by omega))
  have h2 := Cfg.size_pos R n
  rw [hl n (by omega)] at h1
  simp only [lvB, List.length_append]
  omega
theorem rowB_byte (l : List Int) : ∀ x ∈ rowB l, x < 256 := by
 intro x hx
 simp only [rowB, List.mem_flatMap] at hx
 obtain ⟨n, _, h⟩ := hx
 exact vput_byte _ _ (Nat.le_refl _) x h
theorem lvB_byte (cs : Nat → List Int) : ∀ n, ∀ x ∈ lvB cs n, x < 256
 | 0, x, h => by simp [lvB] at h
 | n + 1, x, h => by
  simp only [lvB, List.mem_append] at h
  rcases h with h | h
  ·exact lvB_byte cs n x h
  ·exact rowB_byte _ x h
theorem lowL_byte (u n : Nat) : ∀ x ∈ lowL u n, x < 256 := by
 intro x hx
 simp only [lowL, List.mem_map] at hx
 obtain ⟨i, _, rfl⟩ := hx
 exact Nat.mod_lt _ (by decide)
theorem bodyB_byte (c : Cfg) (cs : Nat → List Int) : ∀ x ∈ bodyB c cs, x < 256 := by
 intro x hx
 simp only [bodyB, hdB, List.mem_append, List.mem_cons, List.not_mem_nil, or_false] at hx
 rcases hx with (((((h | h) | h) | h) | h) | h) | h
 ·omega
 ·exact vput_byte _ _ (Nat.le_refl _) x h
 ·exact vput_byte _ _ (Nat.le_refl _) x h
 ·exact vput_byte _ _ (Nat.le_refl _) x h
 ·exact vput_byte _ _ (Nat.le_refl _) x h
 ·exact lowL_byte _ _ x h
 ·exact lvB_byte _ _ x h
def preB (c : Cfg) : Nat → List Nat
 | 0 => [71, 65]
 | n + 1 => preB c n ++ vput ([c.b, c.r, c.wd, c.m].getD n 0)
theorem preB_len (c : Cfg) (R : c.Ok) : ∀ n, n ≤ 4 → 2 ≤ (preB c n).length ∧ (preB c n).length ≤ 2 + 10 * n
 | 0, _ => by simp [preB]
 | n + 1, h => by
  have ih := preB_len c R n (by omega)
  have := R.b2; have := R.r2; have := R.w2; have := R.m2
  have hv : [c.b, c.r, c.wd, c.m].getD n 0 < 18446744073709551616 := by
   match n, h with
   | 0, _ => show c.b < _; omega
   | 1, _ => show c.r < _; omega
   | 2, _ => show c.wd < _; omega
   | 3, _ => show c.m < _; omega
  have := vput_len10 hv
  simp only [preB, List.length_append]
  omega
theorem vput_pos (u : Nat) : 0 < (vput u).length := by
 by_cases h : u < 128
 ·rw [vput_small h]; simp
 ·rw [vput_big h]; simp
theorem rowB_pos {l : List Int} (h : 0 < l.length) : 0 < (rowB l).length := by
 match l, h with
 | x :: l, _ =>
  have := vput_pos (zig x)
  simp only [rowB, List.flatMap_cons, List.length_append]
  omega
theorem encode_any (st lb lcap : Nat) (vs : Nat → Lv) (c : Cfg) (cs : Nat → List Int) (w : World) (S : StackOk w st lb lcap vs c cs) (R : c.Ok) (hs : ∀ l, l ≤ c.b → Small (cs l)) (hl : ∀ l, l ≤ c.b → (cs l).length = c.size l) :
  Calls Tryz.prog 118 #[.pointer (some ⟨st, 0, none⟩)] w fun e w' => ∃ v, e = .returned v ∧ w'.ownsRow w.heap.size 5 1 v (encB c cs).length (b8 (encB c cs)) ∧ Below w.heap.size w w' := by
 obtain ⟨i0, hi, hz0, hz1, hz2⟩ := info_parts Tryz.info5
 have HCF := Lib.hid (stConfig_any st lb lcap vs c cs w S)
 have HS := Lib.hid S
 have hr1 := R.b1; have hr2 := R.b2; have hr3 := R.r2; have hr4 := R.w2; have hr5 := R.m2; have hr6 := R.s2
 clear S
 go_enter Tryz.func118, Tryz.ntmps118
 go_wp2_with fail
 refine HCF.out.mono ?_
 rintro e w1 ⟨rfl, hb1⟩
 have HB1 := Lib.hid hb1
 have hcv := Joins.run_convert_bytes_const_at (P := Tryz.prog) (w1.alloc (.cells #[.int .i64 c.b, .int .i64 c.r, .int .i64 c.wd, .int .i64 c.m, .int .u64 c.s] 24)) 45 5 #[.int .u8 71, .int .u8 65] 2 2 (w1.heap.size + 1) (by simp) Tryz.underlying45 Tryz.underlying5
 have HCB := Lib.hid (show (c.b : Int) ≤ 59 by omega)
 clear hb1
 go_wp2_with fail
 clear hcv
 obtain ⟨W3, hW3⟩ : ∃ W3, (((w1.alloc (Obj.cells #[Value.int IntKind.i64 c.b, Value.int IntKind.i64 c.r, Value.int IntKind.i64 c.wd, Value.int IntKind.i64 c.m, Value.int IntKind.u64 c.s] 24)).alloc (Obj.cells #[Value.int IntKind.u8 71, Value.int IntKind.u8 65] 5 (2, 3))).alloc (Obj.cells #[Value.int IntKind.i64 c.b, Value.int IntKind.i64 c.r, Value.int IntKind.i64 c.wd, Value.int IntKind.i64 c.m] 3)) = W3 := ⟨_, rfl⟩
 have kW3 : Below w1.heap.size w1 W3 := by rw [← hW3]; exact (((Below.refl _ _).alloc (Nat.le_refl _) _).alloc (by simp) _).alloc (by simp; omega) _
 have xb : W3.heap[w1.heap.size]? = some (Obj.cells #[Value.int IntKind.i64 c.b, Value.int IntKind.i64 c.r, Value.int IntKind.i64 c.wd, Value.int IntKind.i64 c.m, Value.int IntKind.u64 c.s] 24 (0, 0)) := by rw [← hW3]; exact heap_alloc_under _ (heap_alloc_under _ (heap_alloc_at _ rfl))
 have xg : W3.heap[w1.heap.size + 1]? = some (Obj.cells #[Value.int IntKind.u8 71, Value.int IntKind.u8 65] 5 (2, 3)) := by rw [← hW3]; exact heap_alloc_under _ (heap_alloc_at _ (by simp))
 have xn : W3.heap[w1.heap.size + 1 + 1]? = some (Obj.cells #[Value.int IntKind.i64 c.b, Value.int IntKind.i64 c.r, Value.int IntKind.i64 c.wd, Value.int IntKind.i64 c.m] 3 (0, 0)) := by rw [← hW3]; exact heap_alloc_at _ (by simp)
 rw [hW3]
 clear hW3
 have lbx := lt_of_block xb
 have ln := lt_of_block xn
 have hn4 : ∀ k, k < 4 → W3.cell? ⟨w1.heap.size + 1 + 1, k, none⟩ = some (.int .i64 (([c.b, c.r, c.wd, c.m].getD k 0 : Nat) : Int)) ∧ [c.b, c.r, c.wd, c.m].getD k 0 ≤ 128 := by
  intro k hk
  match k, hk with
  | 0, _ => exact ⟨cell_of_heap xn 0 _ rfl, by show c.b ≤ 128; omega⟩
  | 1, _ => exact ⟨cell_of_heap xn 1 _ rfl, by show c.r ≤ 128; omega⟩
  | 2, _ => exact ⟨cell_of_heap xn 2 _ rfl, by show c.wd ≤ 128; omega⟩
  | 3, _ => exact ⟨cell_of_heap xn 3 _ rfl, by show c.m ≤ 128; omega⟩
 have hB0 : BytesAt W3 (.slice (some ⟨w1.heap.size + 1, 0, none⟩) 2 2) (preB c 0) := by
  refine ⟨_, _, rfl, lt_of_block xg, fun j u hu => ?_⟩
  match j, hu with
  | 0, hu => simp [preB, b8] at hu; subst hu; simp [World.cell?, xg]
  | 1, hu => simp [preB, b8] at hu; subst hu; simp [World.cell?, xg]
  | j + 2, hu => simp [preB, b8] at hu
 have H3 := Lib.hid (And.intro kW3 (And.intro xb hn4))
 have HB0 := Lib.hid hB0
 clear kW3 xb xg xn hn4 hB0
 go_loopw [4, 22] (fun v i wr => ∃ k : Nat, k ≤ 4 ∧ i = .int .i64 (k : Int) ∧ BytesAt wr v (preB c k) ∧ (k = 0 ∨ wr.ownsRow W3.heap.size 5 1 v (preB c k).length (b8 (preB c k))) ∧ Below W3.heap.size W3 wr) (fun _ i _ => 4 - (intOf i).toNat)
 case atStart => exact ⟨0, by omega, rfl, HB0.out, .inl rfl, Below.refl _ _⟩
 case round =>
  obtain ⟨k, hk, rfl, hBy, hOr, hB⟩ := hrel
  obtain ⟨cb, cap, hv, hcl, hcc⟩ := id hBy
  subst hv
  have hpl := preB_len c R k hk
  by_cases hk4 : k < 4
  ·have c0 : decide ((k : Int) < 4) = true := by simp; omega
   have c1 : decide (k < 4) = true := by simp; omega
   obtain ⟨hnc, hnb⟩ := H3.out.2.2 k hk4
   have hc := (hB.cell (p := ⟨w1.heap.size + 1 + 1, k, none⟩) ln).trans hnc
   have hstep : preB c (k + 1) = preB c k ++ vput ([c.b, c.r, c.wd, c.m].getD k 0) := rfl
   obtain ⟨x, hx⟩ : ∃ x, [c.b, c.r, c.wd, c.m].getD k 0 = x := ⟨_, rfl⟩
   rw [hx] at hc hnb hstep
   have HP := Lib.hid (vput_any x (by omega) _ (preB c k) wr hBy (by omega) (by omega))
   have HR := Lib.hid (And.intro hB hstep)
   have HPL := Lib.hid (preB_len c R (k + 1) (by omega))
   obtain ⟨m, hm⟩ : ∃ m, (preB c k).length = m := ⟨_, rfl⟩
   rw [hm] at HP hpl ⊢
   clear hBy hOr hB hstep hcc hx hnc hm
   go_wp2_with fail
   refine HP.out.mono ?_
   rintro e w5 ⟨v5, rfl, hO5, hb5⟩
   rw [← HR.out.2] at hO5
   have hB5 := HR.out.1.trans (hb5.mono HR.out.1.size)
   have hO6 := own_mono hO5 HR.out.1.size
   have hBy5 := bytes_own hO6 (by have := HPL.out; omega)
   obtain ⟨o5, c5, rfl⟩ := own_form hO6
   have HRel : ∃ k' : Nat, k' ≤ 4 ∧ Value.int IntKind.i64 ((k : Int) + 1) = .int .i64 (k' : Int) ∧ BytesAt w5 (.slice o5 (preB c (k + 1)).length c5) (preB c k') ∧ (k' = 0 ∨ w5.ownsRow W3.heap.size 5 1 (.slice o5 (preB c (k + 1)).length c5) (preB c k').length (b8 (preB c k'))) ∧ Below W3.heap.size W3 w5 := ⟨k + 1, by omega, by simp, hBy5, .inr hO6, hB5⟩
   obtain ⟨m5, hm5⟩ : ∃ m5, (preB c (k + 1)).length = m5 := ⟨_, rfl⟩
   rw [hm5] at HRel ⊢
   clear hO5 hO6 hBy5 hB5 hb5 hm5
   go_wp2_with fail
   go_roundw
   case rel => first | exact HRel | ((repeat apply Exists.intro); exact ⟨HRel, rfl⟩)
   case measure => simp [intOf]; omega
  ·obtain rfl : k = 4 := by omega
   have c0 : decide (((4 : Nat) : Int) < 4) = false := by decide
   rcases hOr with h | hO
   ·omega
   ·have hhd : preB c 4 ++ lowL c.s 8 = hdB c := rfl
    have HLow := Lib.hid (low_any c.s hr6 8 (by decide) W3.heap.size _ (preB c 4) wr hO (by omega) hB.size)
    rw [hhd] at HLow
    have xbr := (hB.block _ lbx).trans H3.out.2.1
    have q0 := cell_of_heap xbr 0 _ rfl
    have q4 := cell_of_heap xbr 4 _ rfl
    have HR := Lib.hid (And.intro hB (And.intro hO xbr))
    obtain ⟨m, hm⟩ : ∃ m, (preB c 4).length = m := ⟨_, rfl⟩
    rw [hm] at HLow hpl ⊢
    have HMM := Lib.hid hm
    clear hBy hB hO hcc hhd xbr hm
    go_wp2_with fail
    refine HLow.out.mono ?_
    rintro e w5 ⟨v5, rfl, hO5, hg5, hat5⟩
    have hBw5 : Below W3.heap.size W3 w5 := HR.out.1.grown hg5 HR.out.1.size (fun j e => (HR.out.2.1.lt j (by rw [HMM.out]; exact e)).1)
    have xb5 := (hBw5.block _ lbx).trans H3.out.2.1
    have q0' := cell_of_heap xb5 0 _ rfl
    have hhl := hdB_len c R
    have hW0 : Below w.heap.size w W3 := HB1.out.trans (H3.out.1.mono HB1.out.size)
    obtain ⟨o5, c5, rfl⟩ := own_form hO5
    have H5 := Lib.hid (And.intro hO5 (And.intro hBw5 hW0))
    have hlv0 : hdB c ++ lvB cs 0 = hdB c := by simp [lvB]
    have HLV := Lib.hid hlv0
    clear hO5 hBw5 xb5 hW0 hg5 hat5 q0 q4 hlv0
    go_wp2_with fail
    go_loopw [4, 38] (fun v i wr => ∃ k : Nat, k ≤ c.b + 1 ∧ i = .int .i64 (k : Int) ∧ wr.ownsRow W3.heap.size 5 1 v (hdB c ++ lvB cs k).length (b8 (hdB c ++ lvB cs k)) ∧ Below W3.heap.size W3 wr) (fun _ i _ => c.b + 1 - (intOf i).toNat)
    case atStart => exact ⟨0, by omega, rfl, by rw [HLV.out]; exact H5.out.1, H5.out.2.1⟩
    case round =>
     obtain ⟨k, hk, rfl, hO1, hB⟩ := hrel
     have hll := lvB_len c R cs hs hl k hk
     have hlen : (hdB c ++ lvB cs k).length ≤ 700000 := by rw [List.length_append]; omega
     have hbw := H5.out.2.2.trans (hB.mono H5.out.2.2.size)
     by_cases hkb : k < c.b + 1
     ·have c0 : decide ((k : Int) < (c.b : Int) + 1) = true := by simp; omega
      have c1 : decide (k < c.b + 1) = true := by simp; omega
      have HCE := Lib.hid (stCells_any st _ _ _ c cs wr (HS.out.below hbw) R k (by omega))
      have hckl := hl k (by omega)
      have hsz := Cfg.size_pos R k
      have hck := hs k (by omega)
      have hrl := rowB_len (cs k) hck
      have hrp := rowB_pos (l := cs k) (by omega)
      have hstep : hdB c ++ lvB cs (k + 1) = (hdB c ++ lvB cs k) ++ rowB (cs k) := by simp [lvB]
      obtain ⟨L1, hL1⟩ : ∃ L1, hdB c ++ lvB cs k = L1 := ⟨_, rfl⟩
      rw [hL1] at hO1 hlen hstep
      obtain ⟨m1, hm1⟩ : ∃ m1, L1.length = m1 := ⟨_, rfl⟩
      rw [hm1] at hO1 hlen
      obtain ⟨o1, c1', rfl⟩ := own_form hO1
      have HR := Lib.hid (And.intro hO1 (And.intro hB (And.intro hstep hm1)))
      clear hO1 hB hstep hL1 hm1 hbw q0'
      go_wp2_with fail
      refine HCE.out.mono ?_
      rintro e w6 ⟨⟨g6, c6, rfl, hO6⟩, hb6⟩
      rw [← hckl] at hO6
      have HPR := Lib.hid (putrow_any _ (cs k) w6 (own_mono hO6 (Nat.zero_le _)) hck (by omega) (by omega))
      have HB6 := Lib.hid hb6
      rw [hckl] at HPR
      clear hb6 hO6
      go_wp2_with fail
      refine HPR.out.mono ?_
      rintro e w7 ⟨v7, rfl, hO7, hb7⟩
      have hB67 : Below wr.heap.size wr w7 := HB6.out.trans (hb7.mono HB6.out.size)
      have hO17 := own_below HR.out.1 hB67
      obtain ⟨g7, c7, rfl, hl7, hc7⟩ := bytes_own hO7 hrp
      have hcell : ∀ j u, (b8 (rowB (cs k)))[j]? = some u → w7.cell? ((⟨g7, 0, none⟩ : Addr).add j) = some u := fun j u hu => by
       rw [add_none, Nat.zero_add]; exact hc7 j u hu
      have HC7 := Lib.hid hcell
      have HL7 := Lib.hid (show (b8 (rowB (cs k))).length = (rowB (cs k)).length * 1 by simp [b8])
      have H17 := Lib.hid (b8_one (rowB (cs k)))
      have HO17 := Lib.hid (And.intro hO17 hB67)
      have hzW : W3.heap.size ≤ w7.heap.size := Nat.le_trans HR.out.2.1.size hB67.size
      obtain ⟨m7, hm7⟩ : ∃ m7, (rowB (cs k)).length = m7 := ⟨_, rfl⟩
      rw [hm7] at hrl HL7 ⊢
      have HM7 := Lib.hid hm7
      clear hO7 hb7 hB67 hcell hc7 hm7 hrp
      go_wp2_with (at_builtin; refine wpList_append_own_at _ rfl (.tmp 41) (.tmp 45) 45 rfl W3.heap.size 5 i0 (.int .u8 0) 1 1 Tryz.underlying45 hi hz0 hz1 hz2 rfl (by decide) (.slice o1 m1 c1') m1 (b8 L1) rfl hO17 ⟨g7, 0, none⟩ m7 c7 (b8 (rowB (cs k))) rfl HL7.out HC7.out H17.out (by unfold maxLen; omega) (by omega) hzW ?_; intro v2 w2 hown hgrow hnil hat2; obtain ⟨o2, c2, rfl⟩ := own_form hown)
      have hown2 : w2.ownsRow W3.heap.size 5 1 (.slice o2 (m1 + m7) c2) (hdB c ++ lvB cs (k + 1)).length (b8 (hdB c ++ lvB cs (k + 1))) := by
       rw [HR.out.2.2.1, b8_app, List.length_append, HR.out.2.2.2, HM7.out]; exact hown
      have hB2 : Below W3.heap.size W3 w2 := (HR.out.2.1.trans (HO17.out.2.mono HR.out.2.1.size)).grown hgrow hzW (fun j e => (HO17.out.1.lt j e).1)
      have HRel : ∃ k' : Nat, k' ≤ c.b + 1 ∧ Value.int IntKind.i64 ((k : Int) + 1) = .int .i64 (k' : Int) ∧ w2.ownsRow W3.heap.size 5 1 (.slice o2 (m1 + m7) c2) (hdB c ++ lvB cs k').length (b8 (hdB c ++ lvB cs k')) ∧ Below W3.heap.size W3 w2 := ⟨k + 1, by omega, by simp, hown2, hB2⟩
      clear hown hgrow hnil hat2 hown2 hB2 hO17
      go_wp2_with fail
      go_roundw
      case rel => first | exact HRel | ((repeat apply Exists.intro); exact ⟨HRel, rfl⟩)
      case measure => simp [intOf]; omega
     ·obtain rfl : k = c.b + 1 := by omega
      have c0 : decide (((c.b + 1 : Nat) : Int) < (c.b : Int) + 1) = false := by simp
      have hbd : hdB c ++ lvB cs (c.b + 1) = bodyB c cs := rfl
      rw [hbd] at hO1 hlen
      have hbp : 0 < (bodyB c cs).length := by simp only [bodyB, hdB, List.length_append, List.length_cons]; omega
      have HSM := Lib.hid (sum_any _ (bodyB c cs) (bodyB_byte c cs) W3.heap.size wr hO1 (by omega) hbp)
      have hcb := crcE_bd (bodyB c cs)
      have hcn : crcE (bodyB c cs) = ((crcE (bodyB c cs)).toNat : Int) := by rw [Int.toNat_of_nonneg hcb.1]
      have henc : bodyB c cs ++ lowL (crcE (bodyB c cs)).toNat 4 = encB c cs := rfl
      obtain ⟨cr, hcr⟩ : ∃ cr, (crcE (bodyB c cs)).toNat = cr := ⟨_, rfl⟩
      rw [hcr] at hcn henc
      rw [hcn] at HSM
      have hcr2 : cr < 4294967296 := by omega
      have HR := Lib.hid (And.intro hO1 (And.intro hB henc))
      obtain ⟨m1, hm1⟩ : ∃ m1, (bodyB c cs).length = m1 := ⟨_, rfl⟩
      rw [hm1] at hO1 hlen
      obtain ⟨o1, c1', rfl⟩ := own_form hO1
      have HM1 := Lib.hid hm1
      clear hO1 hB hbd hcb hcn hcr henc hm1 hbw q0'
      go_wp2_with fail
      refine HSM.out.mono ?_
      rintro e w6 ⟨rfl, hb6⟩
      have hO6 := own_below HR.out.1 hb6
      have HLo := Lib.hid (low_any cr (by omega) 4 (by decide) W3.heap.size _ (bodyB c cs) w6 hO6 (by rw [HM1.out]; omega) (Nat.le_trans HR.out.2.1.size hb6.size))
      rw [HR.out.2.2] at HLo
      have HO6 := Lib.hid (And.intro hO6 hb6)
      clear hO6 hb6
      go_wp2_with fail
      refine HLo.out.mono ?_
      rintro e w7 ⟨v7, rfl, hO7, hg7, hat7⟩
      obtain ⟨o7, c7, rfl⟩ := own_form hO7
      have hB7 := (H5.out.2.2.trans ((HR.out.2.1.trans (HO6.out.2.mono HR.out.2.1.size)).mono H5.out.2.2.size)).grown hg7 (Nat.le_trans H5.out.2.2.size (Nat.le_trans HR.out.2.1.size HO6.out.2.size)) (fun j e => Nat.le_trans H5.out.2.2.size (HO6.out.1.lt j e).1)
      have HF := Lib.hid (And.intro (own_mono hO7 H5.out.2.2.size) hB7)
      clear hO7 hB7 hg7 hat7
      go_wp2_with fail
      go_ret
      exact ⟨_, rfl, HF.out.1, HF.out.2⟩
end Go.Proofs.YtbhppbeepmllaaaGreatDoor

namespace Go.Proofs.YtbhppbeepmllaaaGreatDoor
open Go.RowKit

theorem encB_byte (c : Cfg) (cs : Nat → List Int) : ∀ x ∈ encB c cs, x < 256 := by
 intro x hx
 simp only [encB, List.mem_append] at hx
 rcases hx with h | h
 ·exact bodyB_byte c cs x h
 ·exact lowL_byte _ _ x h
theorem encB_len (c : Cfg) (R : c.Ok) (cs : Nat → List Int) (hs : ∀ l, l ≤ c.b → Small (cs l)) (hl : ∀ l, l ≤ c.b → (cs l).length = c.size l) : 0 < (encB c cs).length ∧ (encB c cs).length ≤ 700000 := by
 have h1 := hdB_len c R
 have h2 := lvB_len c R cs hs hl (c.b + 1) (Nat.le_refl _)
 have := R.b2
 have h3 : (encB c cs).length = (hdB c).length + (lvB cs (c.b + 1)).length + 4 := by simp only [encB, bodyB, List.length_append, lowL_len]
 omega
def encU (c : Cfg) (cs : Nat → List Int) : List UInt8 := (encB c cs).map UInt8.ofNat
variable {P : Nat → Prop} {w w' : World} {ag mb n : Nat} {sd lb lcap : Nat → Nat} {vs : Nat → Nat → Lv} {c : Cfg} {cs : Nat → Nat → List Int}
theorem ln_export (A : Ag P w ag mb n sd lb lcap vs c cs) (R : c.Ok) (hn : n ≤ 32) (h : Nat) (h1 : 1 ≤ h) (h2 : h ≤ n) (hsm : ∀ l, l ≤ c.b → Small (cs h l)) (hlen : ∀ l, l ≤ c.b → (cs h l).length = c.size l) (s : ByteArray) (hs : s.data.toList = lnB [101, 120, 112, 111, 114, 116] [(h : Int)]) :
  Calls Tryz.prog 13 #[.pointer (some ⟨ag, 0, none⟩), .string s] w fun e w' => e = .returned (.tuple #[.string (sOf ([98, 121, 116, 101, 115, 32] ++ hexL (encU c (cs h)))), .bool true]) ∧ Below w.heap.size w w' := by
 have hel := encB_len c R (cs h) hsm hlen
 refine agLine_ok ag s _ 168 201 (fun V w1 => V = .agg #[.string ⟨#[101, 120, 112, 111, 114, 116]⟩, .int .i64 (h : Int), .slice none 0 0] ∧ Below w.heap.size w w1) (fun V w2 => ∃ g fc, V = .agg #[.slice (some ⟨g, 0, none⟩) (encB c (cs h)).length fc] ∧ g < w2.heap.size ∧ (∀ j u, (b8 (encB c (cs h)))[j]? = some u → w2.cell? ⟨g, j, none⟩ = some u) ∧ Below w.heap.size w w2) _ w ?_ ?_ ?_
 ·refine (parseExport s (fun i => ([(h : Int)] : List Int).getD i 0) w (hs.trans (lnB_line _ _).symm) (ks_ok [(h : Int)] 1 rfl (by
  intro k hk
  simp only [List.mem_cons, List.not_mem_nil, or_false] at hk
  rcases hk with rfl; omega)) A.tab).mono ?_
  rintro e w1 ⟨rfl, hb⟩
  exact ⟨_, rfl, rfl, hb⟩
 ·rintro V w1 ⟨rfl, hb⟩
  have A1 := A.below hb
  refine (do_query2 ag ⟨#[101, 120, 112, 111, 114, 116]⟩ (h : Int) none 0 0 0 (fun r w2 => ∃ g fc, r = .iface 201 (.agg #[.slice (some ⟨g, 0, none⟩) (encB c (cs h)).length fc]) ∧ g < w2.heap.size ∧ (∀ j u, (b8 (encB c (cs h)))[j]? = some u → w2.cell? ⟨g, j, none⟩ = some u) ∧ Below w.heap.size w w2) w1 ?_).mono ?_
  ·intro w2 hb2
   have A2 := A1.below hb2
   refine (query_export2 ag mb n sd h (fun fo fm fc w3 => ∃ g, fo = some ⟨g, 0, none⟩ ∧ fm = (encB c (cs h)).length ∧ g < w3.heap.size ∧ (∀ j u, (b8 (encB c (cs h)))[j]? = some u → w3.cell? ⟨g, j, none⟩ = some u) ∧ Below w.heap.size w w3) w2 A2.st hn h1 h2 ?_).mono ?_
   ·intro w3 hb3
    have A3 := A2.below hb3
    have kb := (hb.trans (hb2.mono hb.size)).trans (hb3.mono (hb.trans (hb2.mono hb.size)).size)
    refine (encode_any (sd h) (lb h) (lcap h) (vs h) c (cs h) w3 (A3.stk h h1 h2) R hsm hlen).mono ?_
    rintro e w4 ⟨v, rfl, ho, hb4⟩
    obtain ⟨g, cap, rfl, hg, hc⟩ := bytes_own ho hel.1
    exact ⟨_, _, _, rfl, g, rfl, rfl, hg, hc, kb.trans (hb4.mono kb.size)⟩
   ·rintro e w3 ⟨fo, fm, fc, rfl, g, rfl, rfl, hg, hc, hb3⟩
    exact ⟨_, rfl, g, fc, rfl, hg, hc, hb3⟩
  ·rintro e w2 ⟨r, rfl, g, fc, rfl, hg, hc, hb2⟩
   exact ⟨_, rfl, g, fc, rfl, hg, hc, hb2⟩
 ·rintro V w2 ⟨g, fc, rfl, hg, hc, hb2⟩
  have ht := text_bytes (encU c (cs h)) g fc w2 (by simp only [encU, List.length_map]; omega) hg (fun j b hb => by
   simp only [encU, List.getElem?_map, Option.map_eq_some_iff] at hb
   obtain ⟨x, hx, rfl⟩ := hb
   have hxb := encB_byte c (cs h) x (List.mem_of_getElem? hx)
   rw [hc j (.int .u8 (x : Int)) (by simp [b8, hx])]
   congr 2
   rw [UInt8.toNat_ofNat']
   omega)
  rw [show (encU c (cs h)).length = (encB c (cs h)).length by simp [encU]] at ht
  refine ht.mono ?_
  rintro e w3 ⟨rfl, hb⟩
  exact ⟨rfl, hb2.trans (hb.mono hb2.size)⟩
end Go.Proofs.YtbhppbeepmllaaaGreatDoor

namespace Go.Proofs.YtbhppbeepmllaaaGreatDoor
open Go.RowKit

def gmF (F : List Int) (i : Nat) : List Int := List.replicate i 0 ++ F.drop i
theorem gmF_len {F : List Int} {i : Nat} (h : i ≤ F.length) : (gmF F i).length = F.length := by
 unfold gmF; simp; omega
theorem gmF_end (F : List Int) : gmF F F.length = List.replicate F.length 0 := by
 unfold gmF; simp
theorem gmF_zero (F : List Int) : gmF F 0 = F := by
 unfold gmF; simp
theorem gmF_getD (F : List Int) (i j : Nat) : (gmF F i).getD j 0 = if j < i then 0 else F.getD j 0 := by
 unfold gmF
 simp only [List.getD_eq_getElem?_getD, List.getElem?_append, List.length_replicate, List.getElem?_replicate, List.getElem?_drop]
 by_cases h : j < i
 ·simp [h]
 ·simp only [h, if_false]
  rw [show i + (j - i) = j by omega]
theorem getD_setM (l : List Int) (i j : Nat) (v : Int) (hi : i < l.length) : (l.set i v).getD j 0 = if j = i then v else l.getD j 0 := by
 simp only [List.getD_eq_getElem?_getD, List.getElem?_set]
 by_cases h : i = j
 ·subst h; simp [hi]
 ·rw [if_neg h, if_neg (fun e => h e.symm)]
theorem ext_getD {a b : List Int} (hl : a.length = b.length) (h : ∀ j, j < a.length → a.getD j 0 = b.getD j 0) : a = b := by
 apply List.ext_getElem hl
 intro j h1 h2
 have := h j h1
 simpa [List.getD_eq_getElem?_getD, h1, h2] using this
theorem gmF_step {F : List Int} {i : Nat} (h : i < F.length) {a b : Int} (hab : a + b = F.getD i 0) :
  ((gmF F (i + 1)).set i ((gmF F (i + 1)).getD i 0 + a)).set i (((gmF F (i + 1)).set i ((gmF F (i + 1)).getD i 0 + a)).getD i 0 + b) = gmF F i := by
 have l1 := gmF_len (show i + 1 ≤ F.length by omega)
 have l0 := gmF_len (show i ≤ F.length by omega)
 apply ext_getD
 ·simp only [List.length_set]; omega
 ·intro j hj
  rw [getD_setM _ _ _ _ (by rw [List.length_set]; omega), getD_setM _ _ _ _ (by omega), getD_setM _ _ _ _ (by omega), gmF_getD, gmF_getD, gmF_getD]
  by_cases e : j = i
  ·subst e
   rw [if_pos rfl, if_pos rfl, if_pos (by omega), if_neg (by omega)]; omega
  ·rw [if_neg e, if_neg e]
   by_cases h1 : j < i
   ·rw [if_pos (by omega), if_pos h1]
   ·rw [if_neg (by omega), if_neg h1]
theorem sumIf_zero (p : Nat → Bool) : ∀ K : List Nat, sumIf p K (List.replicate K.length 0) = 0
 | [] => rfl
 | a :: K => by
  have := sumIf_zero p K
  simp only [List.length_cons, List.replicate_succ, sumIf, this]
  split <;> rfl
theorem lin_zero (c : Cfg) (K : List Nat) : LinOk c (zeroC c) K (List.replicate K.length 0) := by
 intro l hl
 exact ⟨by simp [zeroC], fun j hj => by rw [zeroC, zero_getD, sumIf_zero]⟩
theorem lin_two {c : Cfg} {cs : Nat → List Int} {K : List Nat} {F : List Int} {i key : Nat} {a b : Int} (h : LinOk c cs K (gmF F (i + 1))) (hm : c.m ≠ 2) (hl : F.length = K.length) (hk : K[i]? = some key) (hab : a + b = F.getD i 0) : LinOk c (stFed c key b (stFed c key a cs)) K (gmF F i) := by
 have hi : i < F.length := by rw [hl]; exact (List.getElem?_eq_some_iff.1 hk).1
 have l1 := gmF_len (show i + 1 ≤ F.length by omega)
 have h1 := h.fed hm (by omega) i key hk a
 have h2 := h1.fed hm (by rw [List.length_set]; omega) i key hk b
 rw [gmF_step hi hab] at h2
 exact h2
theorem bd_fed {c : Cfg} {cs : Nat → List Int} {M D d : Int} (h : ∀ l, l ≤ c.b → Bd M (cs l)) (hM : 0 ≤ M) (hd : -D ≤ d ∧ d ≤ D) (hD : 0 ≤ D) (key : Nat) : ∀ l, l ≤ c.b → Bd (M + D) (stFed c key d cs l) := by
 intro l hl
 unfold stFed
 rw [if_pos hl]
 exact (h l hl).lvFed hM hd hD c l _
theorem lin_same {c : Cfg} {xs ys : Nat → List Int} {K : List Nat} {F : List Int} (h : LinOk c xs K F) (g : LinOk c ys K F) : ∀ l, l ≤ c.b → xs l = ys l := by
 intro l hl
 obtain ⟨h1, h2⟩ := h l hl
 obtain ⟨g1, g2⟩ := g l hl
 exact ext_getD (by omega) (fun j hj => by rw [h2 j (by omega), g2 j (by omega)])
theorem lvB_same {xs ys : Nat → List Int} : ∀ n, (∀ l, l < n → xs l = ys l) → lvB xs n = lvB ys n
 | 0, _ => rfl
 | n + 1, h => by
  unfold lvB
  rw [lvB_same n (fun l hl => h l (by omega)), h n (by omega)]
theorem encU_same {c : Cfg} {xs ys : Nat → List Int} (h : ∀ l, l ≤ c.b → xs l = ys l) : encU c xs = encU c ys := by
 unfold encU encB bodyB
 rw [lvB_same (c.b + 1) (fun l hl => h l (by omega))]
theorem encU_long (c : Cfg) (cs : Nat → List Int) : 18 ≤ (encU c cs).length := by
 have h1 := vput_pos c.b
 have h2 := vput_pos c.r
 have h3 := vput_pos c.wd
 have h4 := vput_pos c.m
 simp only [encU, encB, bodyB, hdB, List.length_map, List.length_append, lowL_len, List.length_cons, List.length_nil]
 omega
theorem export_long (c : Cfg) (cs : Nat → List Int) : 20 < (sOf ([98, 121, 116, 101, 115, 32] ++ hexL (encU c cs))).size := by
 have := encU_long c cs
 rw [sOf_size, List.length_append, hexL_len]
 simp only [List.length_cons, List.length_nil]
 omega
theorem half_bd {x M : Int} (h : -M ≤ x ∧ x ≤ M) : (-M ≤ x.tdiv 2 ∧ x.tdiv 2 ≤ M) ∧ (-M ≤ x - x.tdiv 2 ∧ x - x.tdiv 2 ≤ M) := by
 by_cases h0 : 0 ≤ x
 ·rw [Int.tdiv_eq_ediv_of_nonneg h0]; omega
 ·obtain ⟨y, rfl⟩ : ∃ y, x = -y := ⟨-x, by omega⟩
  rw [Int.neg_tdiv, Int.tdiv_eq_ediv_of_nonneg (by omega)]; omega
theorem ln_add2 (V R1 R2 : ByteArray) (a b : Int) (hV : V = ⟨#[97, 100, 100, 32, 50, 32]⟩) (h1 : R1 = sOf (Lib.itoa a)) (h2 : R2 = sOf (Lib.itoa b)) :
  (V ++ R1 ++ ⟨#[32]⟩ ++ R2).data.toList = lnB [97, 100, 100] [2, a, b] := by
 subst hV; subst h1; subst h2
 have h0 : Lib.itoa 2 = [50] := itoa_small 2 (by decide)
 simp only [app_list, sOf_list, lnB, List.flatMap_cons, List.flatMap_nil, h0]
 simp
theorem ln_exp (V R1 : ByteArray) (a : Int) (hV : V = ⟨#[101, 120, 112, 111, 114, 116, 32]⟩) (h1 : R1 = sOf (Lib.itoa a)) :
  (V ++ R1).data.toList = lnB [101, 120, 112, 111, 114, 116] [a] := by
 subst hV; subst h1
 simp only [app_list, sOf_list, lnB, List.flatMap_cons, List.flatMap_nil]
 simp
theorem ln_exp2 : (⟨#[101, 120, 112, 111, 114, 116, 32, 50]⟩ : ByteArray).data.toList = lnB [101, 120, 112, 111, 114, 116] [(2 : Nat)] := by
 have h0 : Lib.itoa ((2 : Nat) : Int) = [50] := itoa_small 2 (by decide)
 simp only [lnB, List.flatMap_cons, List.flatMap_nil, h0]
 rfl
end Go.Proofs.YtbhppbeepmllaaaGreatDoor
