import Derived.Test.YtbhppbeepmllaaaGreatDoorM3602d81b
import Derived.Test.YtbhppbeepmllaaaGreatDoorM380506be
import Derived.Test.YtbhppbeepmllaaaGreatDoorM337717ca
set_option linter.unusedVariables false
set_option linter.unusedSimpArgs false
set_option maxRecDepth 100000
set_option maxHeartbeats 2000000
namespace Go.Proofs.YtbhppbeepmllaaaGreatDoor
open Go.RowKit

def b8 (l : List Nat) : List Value := l.map fun n : Nat => Value.int .u8 (n : Int)
theorem b8_len (l : List Nat) : (b8 l).length = l.length := by simp [b8]
theorem b8_snoc (l : List Nat) (x : Nat) : b8 (l ++ [x]) = b8 l ++ [.int .u8 (x : Int)] := by simp [b8]
theorem b8_app (l m : List Nat) : b8 (l ++ m) = b8 l ++ b8 m := by simp [b8]
def vput (u : Nat) : List Nat := if h : u < 128 then [u] else (u % 128 + 128) :: vput (u / 128)
termination_by u
decreasing_by omega
theorem vput_small {u : Nat} (h : u < 128) : vput u = [u] := by rw [vput, dif_pos h]
theorem vput_big {u : Nat} (h : ¬ u < 128) : vput u = (u % 128 + 128) :: vput (u / 128) := by rw [vput, dif_neg h]
theorem vput_len : ∀ (k u : Nat), u < 128 ^ (k + 1) → (vput u).length ≤ k + 1
 | 0, u, h => by rw [vput_small (by simpa using h)]; simp
 | k + 1, u, h => by
  by_cases h2 : u < 128
  ·rw [vput_small h2]; simp
  ·rw [vput_big h2]
   have := vput_len k (u / 128) (by rw [Nat.pow_succ] at h; omega)
   simp only [List.length_cons]
   omega
theorem vput_len10 {u : Nat} (h : u < 18446744073709551616) : (vput u).length ≤ 10 := vput_len 9 u (by
 have : (128 : Nat) ^ 10 = 1180591620717411303424 := by decide
 omega)
theorem vput_byte : ∀ (n u : Nat), u ≤ n → ∀ x ∈ vput u, x < 256
 | n, u, h, x, hx => by
  by_cases h2 : u < 128
  ·rw [vput_small h2] at hx; simp at hx; omega
  ·rw [vput_big h2] at hx
   simp only [List.mem_cons] at hx
   rcases hx with rfl | hx
   ·omega
   ·match n, h with
    | 0, h => omega
    | n + 1, h => exact vput_byte n (u / 128) (by omega) x hx
theorem or128 (q : Nat) : bits BinOp.or IntKind.u8 ((q % 256 : Nat) : Int) 128 = ((q % 128 + 128 : Nat) : Int) := by
 have h : ∀ x : Fin 256, bits BinOp.or IntKind.u8 ((x.1 : Nat) : Int) 128 = ((x.1 % 128 + 128 : Nat) : Int) := by decide +kernel
 have h1 := h ⟨q % 256, Nat.mod_lt _ (by decide)⟩
 dsimp only at h1
 rw [h1, show q % 256 % 128 = q % 128 by omega]
theorem grown_tr {w w1 w2 : World} {r r1 : Option Nat} (h : w.grownBy w1 r) (k : w1.grownBy w2 r1) (hr : r1 = r ∨ ∃ g, r1 = some g ∧ w.heap.size ≤ g) : w.grownBy w2 r := by
 refine ⟨k.os.trans h.os, k.tape.trans h.tape, k.output.trans h.output, Nat.le_trans h.size k.size, fun j hj hn => ?_⟩
 refine (k.block j (Nat.lt_of_lt_of_le hj h.size) (fun e => ?_)).trans (h.block j hj hn)
 rcases hr with rfl | ⟨g, rfl, hg⟩
 ·exact hn e
 ·have := Option.some.inj e; omega
theorem grown_al {w : World} (o : Obj) (r : Option Nat) : w.grownBy (w.alloc o) r := grown_of_below ((Below.refl _ _).alloc (Nat.le_refl _) _) r
theorem Tryz.info5 : (Tryz.prog.info? 5).map (fun i => (i.zero, i.size, i.bytes)) = some (some (.int .u8 0), 1, 1) := by kernel_rfl
def AtEnd (w : World) (v v' : Value) : Prop := v'.ownBlock = v.ownBlock ∨ ∃ g, v'.ownBlock = some g ∧ w.heap.size ≤ g
theorem vput1_any (u : Nat) (hu : u < 18446744073709551616) (B : Nat) (v : Value) (l : List Nat) (w : World) (hO : w.ownsRow B 5 1 v l.length (b8 l)) (hl : l.length ≤ 4000000) (hB : B ≤ w.heap.size) :
  Calls Tryz.prog 190 #[v, .int .u64 (u : Int)] w fun e w' => ∃ v', e = .returned v' ∧ w'.ownsRow B 5 1 v' (l ++ vput u).length (b8 (l ++ vput u)) ∧ w.grownBy w' v.ownBlock ∧ AtEnd w v v' := by
 obtain ⟨i0, hi, hz0, hz1, hz2⟩ := info_parts Tryz.info5
 have hvl := vput_len10 hu
 obtain ⟨o, c, rfl⟩ := own_form hO
 go_enter Tryz.func190, Tryz.ntmps190
 go_wp2_with fail
 go_loopw [0, 1] (fun a b wr => ∃ (v1 : Value) (l1 : List Nat) (q : Nat), a = v1 ∧ b = .int .u64 (q : Int) ∧ q < 18446744073709551616 ∧ l1 ++ vput q = l ++ vput u ∧ wr.ownsRow B 5 1 v1 l1.length (b8 l1) ∧ w.grownBy wr (Value.slice o l.length c).ownBlock ∧ AtEnd w (.slice o l.length c) v1) (fun _ b _ => (intOf b).toNat)
 case atStart => exact ⟨_, l, u, rfl, rfl, hu, rfl, hO, grown_of_below (Below.refl _ _) _, .inl rfl⟩
 case round =>
  obtain ⟨v1, l1, q, rfl, rfl, hq, hlq, hO1, hg, hat⟩ := hrel
  have hlen := congrArg List.length hlq
  rw [List.length_append, List.length_append] at hlen
  obtain ⟨o1, c1, rfl⟩ := own_form hO1
  have hs := hg.size
  have HAT := Lib.hid hat
  clear hat
  by_cases hb : q < 128
  ·have c0 : decide ((128 : Int) ≤ (q : Int)) = false := by simp; omega
   have c1' : decide (128 ≤ q) = false := by simp; omega
   have hw : IntKind.u8.wrap (q : Int) = (q : Int) := by rw [IntKind.wrap_u8, Int.emod_eq_of_lt (by omega) (by omega)]
   have HV := Lib.hid (And.intro hlq (vput_small hb))
   clear hlq
   go_wp2_with (at_builtin; refine wpList_append_own_at _ rfl (.tmp 15) (.tmp 18) 45 rfl B 5 i0 (.int .u8 0) 1 1 Tryz.underlying45 hi hz0 hz1 hz2 rfl (by decide) (.slice o1 l1.length c1) l1.length (b8 l1) rfl (hO1.alloc _) ⟨wr.heap.size, 0, none⟩ 1 1 [.int .u8 (q : Int)] rfl rfl (cell_one_new _ _ _) (by intro x hx; simp at hx; subst hx; rfl) (by unfold maxLen; omega) (by omega) (by simp; omega) ?_; intro v2 w2 hown hgrow hnil hat2; obtain ⟨o2, c2, rfl⟩ := own_form hown)
   obtain ⟨hlq, hvs⟩ := HV.out
   have hg2 := grown_tr hg (grown_tr (grown_al _ _) hgrow (.inl rfl)) (r1 := (Value.slice o1 l1.length c1).ownBlock) (by rcases HAT.out with h | h; exact .inl h; exact .inr h)
   rw [hvs] at hlq
   have hown2 : w2.ownsRow B 5 1 (.slice o2 (l1.length + 1) c2) (l ++ vput u).length (b8 (l ++ vput u)) := by
    rw [← hlq, b8_snoc, List.length_append]; exact hown
   have hat3 : AtEnd w (.slice o l.length c) (.slice o2 (l1.length + 1) c2) := by
    rcases hat2 with e | e
    ·rcases HAT.out with h | ⟨g, h, h2⟩
     ·exact .inl (e.trans h)
     ·exact .inr ⟨g, e.trans h, h2⟩
    ·exact .inr ⟨_, e, by simp; omega⟩
   have HFIN := Lib.hid (And.intro hown2 (And.intro hg2 hat3))
   clear hown2 hg2 hat3 hlq hvs hown hgrow hat2 hnil
   go_wp2_with fail
   go_ret
   exact ⟨_, rfl, HFIN.out.1, HFIN.out.2.1, HFIN.out.2.2⟩
  ·have c0 : decide ((128 : Int) ≤ (q : Int)) = true := by simp; omega
   have c1' : decide (128 ≤ q) = true := by simp; omega
   have hor : bits BinOp.or IntKind.u8 ((q : Int) % 256) 128 = ((q % 128 + 128 : Nat) : Int) := by
    rw [← or128 q]; simp
   have hsh : (q : Int) / 128 = ((q / 128 : Nat) : Int) := by simp
   have HV := Lib.hid (And.intro hlq (vput_big hb))
   obtain ⟨x, hx⟩ : ∃ x, q % 128 + 128 = x := ⟨_, rfl⟩
   obtain ⟨q1, hq1⟩ : ∃ q1, q / 128 = q1 := ⟨_, rfl⟩
   rw [hx] at hor HV
   rw [hq1] at hsh HV
   have HQ1 := Lib.hid hq1
   clear hlq hx hq1
   go_wp2_with (at_builtin; refine wpList_append_own_at _ rfl (.tmp 9) (.tmp 13) 45 rfl B 5 i0 (.int .u8 0) 1 1 Tryz.underlying45 hi hz0 hz1 hz2 rfl (by decide) (.slice o1 l1.length c1) l1.length (b8 l1) rfl (hO1.alloc _) ⟨wr.heap.size, 0, none⟩ 1 1 [.int .u8 (x : Int)] rfl rfl (cell_one_new _ _ _) (by intro x hx; simp at hx; subst hx; rfl) (by unfold maxLen; omega) (by omega) (by simp; omega) ?_; intro v2 w2 hown hgrow hnil hat2; obtain ⟨o2, c2, rfl⟩ := own_form hown)
   obtain ⟨hlq, hvs⟩ := HV.out
   have hg2 := grown_tr hg (grown_tr (grown_al _ _) hgrow (.inl rfl)) (r1 := (Value.slice o1 l1.length c1).ownBlock) (by rcases HAT.out with h | h; exact .inl h; exact .inr h)
   have hown2 : w2.ownsRow B 5 1 (.slice o2 (l1.length + 1) c2) (l1 ++ [x]).length (b8 (l1 ++ [x])) := by
    rw [b8_snoc, List.length_append]; exact hown
   have hat3 : AtEnd w (.slice o l.length c) (.slice o2 (l1.length + 1) c2) := by
    rcases hat2 with e | e
    ·rcases HAT.out with h | ⟨g, h, h2⟩
     ·exact .inl (e.trans h)
     ·exact .inr ⟨g, e.trans h, h2⟩
    ·exact .inr ⟨_, e, by simp; omega⟩
   have HRel : ∃ (v1 : Value) (l2 : List Nat) (q' : Nat), Value.slice o2 (l1.length + 1) c2 = v1 ∧ Value.int IntKind.u64 (q1 : Int) = .int .u64 (q' : Int) ∧ q' < 18446744073709551616 ∧ l2 ++ vput q' = l ++ vput u ∧ w2.ownsRow B 5 1 v1 l2.length (b8 l2) ∧ w.grownBy w2 (Value.slice o l.length c).ownBlock ∧ AtEnd w (.slice o l.length c) v1 := ⟨_, l1 ++ [x], q1, rfl, rfl, by have := HQ1.out; omega, by rw [← hlq, hvs]; simp, hown2, hg2, hat3⟩
   clear hown2 hg2 hat3 hlq hvs hown hgrow hat2 hnil
   go_wp2_with fail
   go_roundw
   case rel => first | exact HRel | ((repeat apply Exists.intro); exact ⟨HRel, rfl⟩)
   case measure => simp [intOf]; have := HQ1.out; omega
end Go.Proofs.YtbhppbeepmllaaaGreatDoor

namespace Go.Proofs.YtbhppbeepmllaaaGreatDoor
open Go.RowKit

def zig (n : Int) : Nat := if 0 ≤ n then (2 * n).toNat else (-2 * n - 1).toNat
theorem zig_lt {n : Int} (h0 : -9223372036854775808 ≤ n) (h1 : n ≤ 9223372036854775807) : zig n < 18446744073709551616 := by unfold zig; split <;> omega
theorem xor0 (a : Nat) (h : a < 18446744073709551616) : bits BinOp.xor IntKind.u64 (a : Int) 0 = (a : Int) := by
 show IntKind.u64.wrap ((BitVec.ofInt 64 (a : Int) ^^^ BitVec.ofInt 64 0).toNat : Int) = _
 have e1 : (BitVec.ofInt 64 (a : Int)).toNat = a := by rw [BitVec.toNat_ofInt]; omega
 have e2 : BitVec.ofInt 64 0 = 0#64 := rfl
 rw [e2, BitVec.xor_zero, e1, IntKind.wrap_u64, Int.emod_eq_of_lt (by omega) (by omega)]
theorem xorF (a : Nat) (h : a < 18446744073709551616) : bits BinOp.xor IntKind.u64 (a : Int) 18446744073709551615 = ((18446744073709551615 - a : Nat) : Int) := by
 show IntKind.u64.wrap ((BitVec.ofInt 64 (a : Int) ^^^ BitVec.ofInt 64 18446744073709551615).toNat : Int) = _
 have e1 : (BitVec.ofInt 64 (a : Int)).toNat = a := by rw [BitVec.toNat_ofInt]; omega
 have e2 : BitVec.ofInt 64 18446744073709551615 = BitVec.allOnes 64 := rfl
 rw [e2, BitVec.xor_allOnes, BitVec.toNat_not, e1, IntKind.wrap_u64, Int.emod_eq_of_lt (by omega) (by omega)]
theorem zig_any (n : Int) (h0 : -1152921504606846976 ≤ n) (h1 : n ≤ 1152921504606846976) (w : World) :
  Calls Tryz.prog 191 #[.int .i64 n] w fun e w' => e = .returned (.int .u64 (zig n : Nat)) ∧ w' = w := by
 by_cases hn : 0 ≤ n
 ·obtain ⟨a, rfl⟩ : ∃ a : Nat, n = a := ⟨n.toNat, by omega⟩
  have hz : zig (a : Int) = a * 2 := by unfold zig; rw [if_pos (by omega)]; omega
  have hd : (a : Int) / 9223372036854775808 = 0 := Int.ediv_eq_zero_of_lt (by omega) (by omega)
  have hx := xor0 (a * 2) (by omega)
  have hm : (a : Int) * 2 = ((a * 2 : Nat) : Int) := by simp
  obtain ⟨z, hzz⟩ : ∃ z, a * 2 = z := ⟨_, rfl⟩
  rw [hzz] at hx hm hz
  rw [hz]
  clear hz
  go_enter Tryz.func191, Tryz.ntmps191
  go_wp2_with fail
  go_ret
  exact ⟨rfl, rfl⟩
 ·obtain ⟨a, rfl⟩ : ∃ a : Nat, n = -(a : Int) - 1 := ⟨(-n - 1).toNat, by omega⟩
  have hz : zig (-(a : Int) - 1) = a * 2 + 1 := by unfold zig; rw [if_neg (by omega)]; omega
  have hd : (-(a : Int) - 1) / 9223372036854775808 = -1 := by omega
  have hw1 : IntKind.u64.wrap (-(a : Int) - 1) = 18446744073709551615 - a := by rw [IntKind.wrap_u64]; omega
  have hw2 : IntKind.u64.wrap ((18446744073709551615 - (a : Int)) * 2) = ((18446744073709551614 - a * 2 : Nat) : Int) := by rw [IntKind.wrap_u64]; omega
  have hw3 : IntKind.u64.wrap (-1) = 18446744073709551615 := by decide
  have hx := xorF (18446744073709551614 - a * 2) (by omega)
  rw [show 18446744073709551615 - (18446744073709551614 - a * 2) = a * 2 + 1 by omega] at hx
  obtain ⟨y, hy⟩ : ∃ y, 18446744073709551614 - a * 2 = y := ⟨_, rfl⟩
  rw [hy] at hw2 hx
  obtain ⟨z, hzz⟩ : ∃ z, a * 2 + 1 = z := ⟨_, rfl⟩
  rw [hzz] at hx hz
  rw [hz]
  have hneg : -(a : Int) - 1 < 0 := by omega
  obtain ⟨n, hnn⟩ : ∃ n, -(a : Int) - 1 = n := ⟨_, rfl⟩
  rw [hnn] at hd hw1 h0 h1 hneg ⊢
  obtain ⟨x1, hx1⟩ : ∃ x1, 18446744073709551615 - (a : Int) = x1 := ⟨_, rfl⟩
  rw [hx1] at hw1 hw2
  clear hz hnn hx1 hy hzz hn
  go_enter Tryz.func191, Tryz.ntmps191
  go_wp2_with fail
  go_ret
  exact ⟨rfl, rfl⟩
theorem clone8_nil (w : World) : Calls Tryz.prog 189 #[.slice none 0 0] w fun e w' => e = .returned (.slice none 0 0) ∧ w' = w := by
 have heq : ∀ w, _ := fun w => Lib.run_eql_slice_nil (P := Tryz.prog) (w := w) 45 5 none 0 0 0 0 Tryz.underlying45
 go_enter Tryz.func189, Tryz.ntmps189
 go_wp2_with fail
 go_ret
 exact ⟨rfl, rfl⟩
theorem b8_one (l : List Nat) : ∀ u ∈ b8 l, u.oneCell' = true := by
 intro u hu
 simp only [b8, List.mem_map] at hu
 obtain ⟨n, _, rfl⟩ := hu
 rfl
theorem add_none (b off j : Nat) : (⟨b, off, none⟩ : Addr).add j = ⟨b, off + j, none⟩ := by unfold Addr.add; split <;> simp_all
def BytesAt (w : World) (v : Value) (l : List Nat) : Prop := ∃ cb cap, v = .slice (some ⟨cb, 0, none⟩) l.length cap ∧ cb < w.heap.size ∧ ∀ j u, (b8 l)[j]? = some u → w.cell? ⟨cb, j, none⟩ = some u
theorem bytes_own {w : World} {B : Nat} {v : Value} {l : List Nat} (hO : w.ownsRow B 5 1 v l.length (b8 l)) (h0 : 0 < l.length) : BytesAt w v l := by
 rcases hO.2 with ⟨h1, h2⟩ | ⟨cb, cap, cur, hv, hg⟩
 ·omega
 ·subst hv
  refine ⟨cb, cap, rfl, (hO.lt cb rfl).2, fun j u hu => ?_⟩
  have h1 := hO.cells (g := cb) rfl j u hu
  rw [add_none, Nat.zero_add] at h1
  exact h1
theorem clone8_any (v : Value) (l : List Nat) (w : World) (hO : BytesAt w v l) (hl : l.length ≤ 4000000) (h0 : 0 < l.length) :
  Calls Tryz.prog 189 #[v] w fun e w' => ∃ v', e = .returned v' ∧ w'.ownsRow w.heap.size 5 1 v' l.length (b8 l) ∧ Below w.heap.size w w' := by
 obtain ⟨i0, hi, hz0, hz1, hz2⟩ := info_parts Tryz.info5
 obtain ⟨cb, cap, rfl, hlt, hcl⟩ := hO
 have heq : ∀ w, _ := fun w => Lib.run_eql_slice_nil (P := Tryz.prog) (w := w) 45 5 (some ⟨cb, 0, none⟩) l.length cap 0 0 Tryz.underlying45
 have hcell : ∀ j u, (b8 l)[j]? = some u → (w.alloc (.cells #[] 5)).cell? ((⟨cb, 0, none⟩ : Addr).add j) = some u := fun j u hu => by
  rw [add_none, Nat.zero_add]
  exact (((Below.refl w.heap.size w).alloc (Nat.le_refl _) (.cells #[] 5)).cell (p := ⟨cb, j, none⟩) hlt).trans (hcl j u hu)
 have HC := Lib.hid hcell
 have HL := Lib.hid (show (b8 l).length = l.length * 1 by simp [b8])
 have H1 := Lib.hid (b8_one l)
 obtain ⟨n, hn⟩ : ∃ n, l.length = n := ⟨_, rfl⟩
 rw [hn] at hl h0 HL heq ⊢
 clear hcell hcl hn
 go_enter Tryz.func189, Tryz.ntmps189
 go_wp2_with (at_builtin; refine wpList_append_own _ rfl (.tmp 5) (.tmp 6) 45 rfl w.heap.size 5 i0 (.int .u8 0) 1 1 Tryz.underlying45 hi hz0 hz1 hz2 rfl (by decide) _ _ _ rfl (World.ownsRow_lit w #[] 0 (Nat.le_refl _) (by simp [maxLen]) rfl) ⟨cb, 0, none⟩ n cap (b8 l) rfl HL.out HC.out H1.out (by unfold maxLen; omega) (by omega) (by simp) ?_; intro v' w1 hown hgrow hnil)
 simp only [List.nil_append, Nat.zero_add] at hown
 obtain ⟨m, rfl⟩ : ∃ m, n = m + 1 := ⟨n - 1, by omega⟩
 obtain ⟨g, c, hv⟩ := own_succ hown
 subst hv
 go_ret
 exact ⟨_, rfl, hown, ((Below.refl _ _).alloc (Nat.le_refl _) _).grown hgrow (by simp) (fun k e => by have e' : some w.heap.size = some k := e; cases e'; exact Nat.le_refl _)⟩
theorem vput_any (u : Nat) (hu : u < 18446744073709551616) (v0 : Value) (l : List Nat) (w0 : World) (hO0 : BytesAt w0 v0 l) (hl : l.length ≤ 3900000) (h0 : 0 < l.length) :
  Calls Tryz.prog 158 #[v0, .int .u64 (u : Int)] w0 fun e w' => ∃ v', e = .returned v' ∧ w'.ownsRow w0.heap.size 5 1 v' (l ++ vput u).length (b8 (l ++ vput u)) ∧ Below w0.heap.size w0 w' := by
 obtain ⟨i0, hi, hz0, hz1, hz2⟩ := info_parts Tryz.info5
 have hvl := vput_len10 hu
 have HCL := Lib.hid (clone8_any v0 l w0 hO0 (by omega) h0)
 obtain ⟨cb0, c0, rfl, _, _⟩ := hO0
 go_enter Tryz.func158, Tryz.ntmps158
 go_wp2_with fail
 refine HCL.out.mono ?_
 rintro e w ⟨v, rfl, hO, hbw⟩
 obtain ⟨B, hB0⟩ : ∃ B, w0.heap.size = B := ⟨_, rfl⟩
 rw [hB0] at hO
 have hB : B ≤ w.heap.size := by rw [← hB0]; exact hbw.size
 have HBW := Lib.hid (And.intro hbw hB0)
 obtain ⟨o, c, rfl⟩ := own_form hO
 clear hbw hB0
 have HOO := Lib.hid (HBW.out.2 ▸ hO : w.ownsRow w0.heap.size 5 1 (.slice o l.length c) l.length (b8 l))
 go_wp2_with fail
 go_loopw [1, 5] (fun b a wr => ∃ (v1 : Value) (l1 : List Nat) (q : Nat), a = v1 ∧ b = .int .u64 (q : Int) ∧ q < 18446744073709551616 ∧ l1 ++ vput q = l ++ vput u ∧ wr.ownsRow B 5 1 v1 l1.length (b8 l1) ∧ w.grownBy wr (Value.slice o l.length c).ownBlock ∧ AtEnd w (.slice o l.length c) v1) (fun b _ _ => (intOf b).toNat)
 case atStart => exact ⟨_, l, u, rfl, rfl, hu, rfl, hO, grown_of_below (Below.refl _ _) _, .inl rfl⟩
 case round =>
  obtain ⟨v1, l1, q, rfl, rfl, hq, hlq, hO1, hg, hat⟩ := hrel
  have hlen := congrArg List.length hlq
  rw [List.length_append, List.length_append] at hlen
  obtain ⟨o1, c1, rfl⟩ := own_form hO1
  have hs := hg.size
  have HAT := Lib.hid hat
  clear hat
  by_cases hb : q < 128
  ·have c0 : decide ((128 : Int) ≤ (q : Int)) = false := by simp; omega
   have c1' : decide (128 ≤ q) = false := by simp; omega
   have hw : IntKind.u8.wrap (q : Int) = (q : Int) := by rw [IntKind.wrap_u8, Int.emod_eq_of_lt (by omega) (by omega)]
   have HV := Lib.hid (And.intro hlq (vput_small hb))
   clear hlq
   go_wp2_with (at_builtin; refine wpList_append_own_at _ rfl (.tmp 18) (.tmp 21) 45 rfl B 5 i0 (.int .u8 0) 1 1 Tryz.underlying45 hi hz0 hz1 hz2 rfl (by decide) (.slice o1 l1.length c1) l1.length (b8 l1) rfl (hO1.alloc _) ⟨wr.heap.size, 0, none⟩ 1 1 [.int .u8 (q : Int)] rfl rfl (cell_one_new _ _ _) (by intro x hx; simp at hx; subst hx; rfl) (by unfold maxLen; omega) (by omega) (by simp; omega) ?_; intro v2 w2 hown hgrow hnil hat2; obtain ⟨o2, c2, rfl⟩ := own_form hown)
   obtain ⟨hlq, hvs⟩ := HV.out
   have hg2 := grown_tr hg (grown_tr (grown_al _ _) hgrow (.inl rfl)) (r1 := (Value.slice o1 l1.length c1).ownBlock) (by rcases HAT.out with h | h; exact .inl h; exact .inr h)
   rw [hvs] at hlq
   have hown2 : w2.ownsRow B 5 1 (.slice o2 (l1.length + 1) c2) (l ++ vput u).length (b8 (l ++ vput u)) := by
    rw [← hlq, b8_snoc, List.length_append]; exact hown
   have hat3 : AtEnd w (.slice o l.length c) (.slice o2 (l1.length + 1) c2) := by
    rcases hat2 with e | e
    ·rcases HAT.out with h | ⟨g, h, h2⟩
     ·exact .inl (e.trans h)
     ·exact .inr ⟨g, e.trans h, h2⟩
    ·exact .inr ⟨_, e, by simp; omega⟩
   have HFIN := Lib.hid (And.intro hown2 (And.intro hg2 hat3))
   clear hown2 hg2 hat3 hlq hvs hown hgrow hat2 hnil
   go_wp2_with fail
   go_ret
   exact ⟨_, rfl, (by have h9 := HFIN.out.1; rw [← HBW.out.2] at h9; exact h9), HBW.out.1.grown HFIN.out.2.1 HBW.out.1.size (fun k e => (HOO.out.lt k e).1)⟩
  ·have c0 : decide ((128 : Int) ≤ (q : Int)) = true := by simp; omega
   have c1' : decide (128 ≤ q) = true := by simp; omega
   have hor : bits BinOp.or IntKind.u8 ((q : Int) % 256) 128 = ((q % 128 + 128 : Nat) : Int) := by
    rw [← or128 q]; simp
   have hsh : (q : Int) / 128 = ((q / 128 : Nat) : Int) := by simp
   have HV := Lib.hid (And.intro hlq (vput_big hb))
   obtain ⟨x, hx⟩ : ∃ x, q % 128 + 128 = x := ⟨_, rfl⟩
   obtain ⟨q1, hq1⟩ : ∃ q1, q / 128 = q1 := ⟨_, rfl⟩
   rw [hx] at hor HV
   rw [hq1] at hsh HV
   have HQ1 := Lib.hid hq1
   clear hlq hx hq1
   go_wp2_with (at_builtin; refine wpList_append_own_at _ rfl (.tmp 12) (.tmp 16) 45 rfl B 5 i0 (.int .u8 0) 1 1 Tryz.underlying45 hi hz0 hz1 hz2 rfl (by decide) (.slice o1 l1.length c1) l1.length (b8 l1) rfl (hO1.alloc _) ⟨wr.heap.size, 0, none⟩ 1 1 [.int .u8 (x : Int)] rfl rfl (cell_one_new _ _ _) (by intro x hx; simp at hx; subst hx; rfl) (by unfold maxLen; omega) (by omega) (by simp; omega) ?_; intro v2 w2 hown hgrow hnil hat2; obtain ⟨o2, c2, rfl⟩ := own_form hown)
   obtain ⟨hlq, hvs⟩ := HV.out
   have hg2 := grown_tr hg (grown_tr (grown_al _ _) hgrow (.inl rfl)) (r1 := (Value.slice o1 l1.length c1).ownBlock) (by rcases HAT.out with h | h; exact .inl h; exact .inr h)
   have hown2 : w2.ownsRow B 5 1 (.slice o2 (l1.length + 1) c2) (l1 ++ [x]).length (b8 (l1 ++ [x])) := by
    rw [b8_snoc, List.length_append]; exact hown
   have hat3 : AtEnd w (.slice o l.length c) (.slice o2 (l1.length + 1) c2) := by
    rcases hat2 with e | e
    ·rcases HAT.out with h | ⟨g, h, h2⟩
     ·exact .inl (e.trans h)
     ·exact .inr ⟨g, e.trans h, h2⟩
    ·exact .inr ⟨_, e, by simp; omega⟩
   have HRel : ∃ (v1 : Value) (l2 : List Nat) (q' : Nat), Value.slice o2 (l1.length + 1) c2 = v1 ∧ Value.int IntKind.u64 (q1 : Int) = .int .u64 (q' : Int) ∧ q' < 18446744073709551616 ∧ l2 ++ vput q' = l ++ vput u ∧ w2.ownsRow B 5 1 v1 l2.length (b8 l2) ∧ w.grownBy w2 (Value.slice o l.length c).ownBlock ∧ AtEnd w (.slice o l.length c) v1 := ⟨_, l1 ++ [x], q1, rfl, rfl, by have := HQ1.out; omega, by rw [← hlq, hvs]; simp, hown2, hg2, hat3⟩
   clear hown2 hg2 hat3 hlq hvs hown hgrow hat2 hnil
   go_wp2_with fail
   go_roundw
   case rel => first | exact HRel | ((repeat apply Exists.intro); exact ⟨HRel, rfl⟩)
   case measure => simp [intOf]; have := HQ1.out; omega
end Go.Proofs.YtbhppbeepmllaaaGreatDoor

namespace Go.Proofs.YtbhppbeepmllaaaGreatDoor
open Go.RowKit

def rowB (l : List Int) : List Nat := l.flatMap fun n => vput (zig n)
theorem rowB_snoc (l : List Int) (x : Int) : rowB (l ++ [x]) = rowB l ++ vput (zig x) := by simp [rowB]
theorem rowB_len (l : List Int) (h : Small l) : (rowB l).length ≤ 10 * l.length := by
 induction l with
 | nil => simp [rowB]
 | cons x l ih =>
  have hx := h x (by simp)
  have := ih (fun y hy => h y (by simp [hy]))
  have h2 := vput_len10 (zig_lt (n := x) (by omega) (by omega))
  simp only [rowB, List.flatMap_cons, List.length_append, List.length_cons] at *
  omega
theorem putrow_any (v : Value) (cs : List Int) (w : World) (hx : w.ownsRow 0 2 1 v cs.length (i64s cs)) (hs : Small cs) (hn : cs.length ≤ 100000) (h0 : 0 < cs.length) :
  Calls Tryz.prog 159 #[.slice none 0 0, v] w fun e w' => ∃ v', e = .returned v' ∧ w'.ownsRow w.heap.size 5 1 v' (rowB cs).length (b8 (rowB cs)) ∧ Below w.heap.size w w' := by
 obtain ⟨cb, cap, hv⟩ : ∃ cb cap, v = .slice (some ⟨cb, 0, none⟩) cs.length cap := by
  rcases hx.2 with ⟨h1, h2⟩ | ⟨g, cap, cur, h1, _⟩
  ·omega
  ·exact ⟨g, cap, h1⟩
 subst hv
 have hlt := (hx.lt cb rfl).2
 have hcell : ∀ k, k < cs.length → w.cell? ⟨cb, k, none⟩ = some (.int .i64 (cs.getD k 0)) := fun k hk => by
  rw [hx.cellAt k (by omega)]
  simp [i64s, List.getD_eq_getElem?_getD, List.getElem?_eq_getElem hk]
 have ka : Below w.heap.size w (w.alloc (.cells #[.slice none 0 0, .func (.func 190) #[] #[]] 326)) := (Below.refl _ _).alloc (Nat.le_refl _) _
 have xa : (w.alloc (.cells #[.slice none 0 0, .func (.func 190) #[] #[]] 326)).heap[w.heap.size]? = some (Obj.cells #[.slice none 0 0, .func (.func 190) #[] #[]] 326 (0, 0)) := heap_alloc_at _ rfl
 have HC := Lib.hid hcell
 obtain ⟨W, hW⟩ : ∃ W, w.alloc (.cells #[.slice none 0 0, .func (.func 190) #[] #[]] 326) = W := ⟨_, rfl⟩
 rw [hW] at ka xa
 have HA := Lib.hid (And.intro ka xa)
 have hzW : w.heap.size + 1 ≤ W.heap.size := by have := lt_of_block xa; omega
 clear hcell hx ka xa
 go_enter Tryz.func159, Tryz.ntmps159
 go_wp2_with fail
 refine (clone8_nil _).mono ?_
 rintro e w1 ⟨rfl, rfl⟩
 go_wp2_with fail
 clear hW
 go_loopw [14] (fun i wr => ∃ (k : Nat) (v1 : Value), k ≤ cs.length ∧ i = .int .i64 (k : Int) ∧ wr.heap[w1.heap.size]? = some (Obj.cells #[v1, .func (.func 190) #[] #[]] 326 (0, 0)) ∧ wr.ownsRow (w1.heap.size + 1) 5 1 v1 (rowB (cs.take k)).length (b8 (rowB (cs.take k))) ∧ Below w1.heap.size w1 wr ∧ w1.heap.size + 1 ≤ wr.heap.size) (fun i _ => cs.length - (intOf i).toNat)
 case atStart => exact ⟨0, .slice none 0 0, by omega, rfl, HA.out.2, ⟨rfl, .inl ⟨rfl, rfl⟩⟩, HA.out.1, hzW⟩
 case round =>
  obtain ⟨k, v1, hk, rfl, hbx, hO, hB, hsz⟩ := hrel
  by_cases hlt2 : k < cs.length
  ·have c0 : decide ((k : Int) < (cs.length : Int)) = true := by simp; omega
   have c1 : decide (k < cs.length) = true := by simp; omega
   have hc := (hB.cell (p := ⟨cb, k, none⟩) hlt).trans (HC.out k hlt2)
   have hxb := hs.getD k
   have htk : cs.take (k + 1) = cs.take k ++ [cs.getD k 0] := by
    rw [List.take_succ_eq_append_getElem hlt2]
    simp [List.getD_eq_getElem?_getD, List.getElem?_eq_getElem hlt2]
   have hrl := rowB_len (cs.take k) (fun y hy => hs y (List.mem_of_mem_take hy))
   rw [List.length_take] at hrl
   obtain ⟨x, hxx⟩ : ∃ x, cs.getD k 0 = x := ⟨_, rfl⟩
   rw [hxx] at hc hxb htk
   have hrow : rowB (cs.take (k + 1)) = rowB (cs.take k) ++ vput (zig x) := by rw [htk, rowB_snoc]
   obtain ⟨L, hL⟩ : ∃ L, rowB (cs.take k) = L := ⟨_, rfl⟩
   rw [hL] at hO hrl hrow
   obtain ⟨o1, c1x, rfl⟩ := own_form hO
   have lbx := lt_of_block hbx
   have q0 := cell_of_heap hbx 0 _ rfl
   have q1 := cell_of_heap hbx 1 _ rfl
   have HR := Lib.hid (And.intro hO (And.intro hB (And.intro hrow hbx)))
   have HZ := Lib.hid fun w => zig_any x (by omega) (by omega) w
   obtain ⟨n, hnn⟩ : ∃ n, cs.length = n := ⟨_, rfl⟩
   rw [hnn] at c0 c1 hlt2 hk hn hrl ⊢
   have HN := Lib.hid hnn
   clear hO hB hrow hbx htk hxx hL hnn
   go_wp2_with fail
   refine wp_region_mixA wr.heap.size [0, 1, 2, 3, 4, 5] [6, 7] (by kernel_rfl) (by kernel_rfl) rfl ?_
   simp only [opsAt, List.map_cons, List.map_nil, List.getElem?_toArray, List.getElem?_cons_zero, List.getElem?_cons_succ, Option.getD_some]
   have z0 := fun kk : After wr.heap.size wr => kk.cell lbx q0
   have z1 := fun kk : After wr.heap.size wr => kk.cell lbx q1
   repeat (go_big_quiet_step ((go_at_call 191; exact after_of (Nat.le_refl _) _ ((HZ.out _).mono (fun e w' h => ⟨h.1, h.2 ▸ Below.refl _ _⟩)))))
   refine wpQuiet_nil ?_
   intro kk
   unfold calmQ
   have kb := kk.h
   clear z0 z1
   obtain ⟨X, hX⟩ : ∃ X, kk.w = X := ⟨_, rfl⟩
   rw [hX] at kb
   rw [hX]
   clear hX q0 q1
   have hOX := own_below HR.out.1 kb
   have HP := Lib.hid (vput1_any (zig x) (zig_lt (by omega) (by omega)) (w1.heap.size + 1) _ L X hOX (by omega) (Nat.le_trans hsz kb.size))
   have HKB := Lib.hid kb
   clear kb hOX
   go_wp2_with fail
   refine HP.out.mono ?_
   rintro e X2 ⟨v2, rfl, hO2, hg2, hat2⟩
   obtain ⟨m2, hm2⟩ : ∃ m2, (L ++ vput (zig x)).length = m2 := ⟨_, rfl⟩
   rw [hm2] at hO2
   obtain ⟨o2, c2, rfl⟩ := own_form hO2
   have hOX := own_below HR.out.1 HKB.out
   have hbX := (HKB.out.block _ lbx).trans HR.out.2.2.2
   have hbX2 := (hg2.block _ (lt_of_block hbX) (fun e => by have := (hOX.lt _ e.symm).1; omega)).trans hbX
   have fz : X2.frozen? ⟨w1.heap.size, 0, none⟩ = false := by simp [World.frozen?, hbX2]
   have y0 := cell_of_heap hbX2 0 _ rfl
   have y1 := cell_of_heap hbX2 1 _ rfl
   have hOS := own_at (p := ⟨w1.heap.size, 0, none⟩) hO2 (.slice o2 m2 c2) (fun e => by have := (hO2.lt _ e).1; dsimp only at this; omega)
   have hbS := heap_setCell_same _ _ 0 _ _ (.slice o2 m2 c2) hbX2
   have hBX := HR.out.2.1.trans (HKB.out.mono HR.out.2.1.size)
   have hBS : Below w1.heap.size w1 (X2.setCell ⟨w1.heap.size, 0, none⟩ (.slice o2 m2 c2)) := (hBX.grown hg2 hBX.size (fun k e => by have := (hOX.lt k e).1; omega)).setCell (Nat.le_refl _) _
   have hsS : w1.heap.size + 1 ≤ (X2.setCell ⟨w1.heap.size, 0, none⟩ (.slice o2 m2 c2)).heap.size := by have := lt_of_block hbS; omega
   have HRel : ∃ (k' : Nat) (v3 : Value), k' ≤ n ∧ Value.int IntKind.i64 ((k : Int) + 1) = .int .i64 (k' : Int) ∧ (X2.setCell ⟨w1.heap.size, 0, none⟩ (.slice o2 m2 c2)).heap[w1.heap.size]? = some (Obj.cells #[v3, .func (.func 190) #[] #[]] 326 (0, 0)) ∧ (X2.setCell ⟨w1.heap.size, 0, none⟩ (.slice o2 m2 c2)).ownsRow (w1.heap.size + 1) 5 1 v3 (rowB (cs.take k')).length (b8 (rowB (cs.take k'))) ∧ Below w1.heap.size w1 (X2.setCell ⟨w1.heap.size, 0, none⟩ (.slice o2 m2 c2)) ∧ w1.heap.size + 1 ≤ (X2.setCell ⟨w1.heap.size, 0, none⟩ (.slice o2 m2 c2)).heap.size := ⟨k + 1, (.slice o2 m2 c2), by omega, by simp, by simpa using hbS, by rw [HR.out.2.2.1, hm2]; exact hOS, hBS, hsS⟩
   clear hm2 hOX hbX hbX2 hOS hbS hBX hBS hsS hO2 hg2 hat2
   go_wp2_with fail
   go_roundw
   case rel => first | exact HRel | ((repeat apply Exists.intro); exact ⟨HRel, rfl⟩)
   case measure => simp [intOf]; omega
  ·obtain rfl : k = cs.length := by omega
   have c0 : decide ((cs.length : Int) < (cs.length : Int)) = false := by simp
   have q0 := cell_of_heap hbx 0 _ rfl
   rw [List.take_length] at hO
   obtain ⟨o1, c1x, rfl⟩ := own_form hO
   have HFIN := Lib.hid (And.intro hO hB)
   clear hO hB
   go_wp2_with fail
   go_ret
   refine ⟨_, rfl, ⟨HFIN.out.1.1, ?_⟩, HFIN.out.2⟩
   rcases HFIN.out.1.2 with h1 | ⟨g, cap, cur, h1, h2, h4⟩
   ·exact .inl h1
   ·exact .inr ⟨g, cap, cur, h1, by omega, h4⟩
end Go.Proofs.YtbhppbeepmllaaaGreatDoor

namespace Go.Proofs.YtbhppbeepmllaaaGreatDoor
open Go.RowKit

def lowL (u n : Nat) : List Nat := (List.range n).map fun i => u / 2 ^ (8 * i) % 256
theorem lowL_len (u n : Nat) : (lowL u n).length = n := by simp [lowL]
theorem lowL_snoc (u n : Nat) : lowL u (n + 1) = lowL u n ++ [u / 2 ^ (8 * n) % 256] := by simp [lowL, List.range_succ]
theorem low_any (u : Nat) (hu : u < 18446744073709551616) (n : Nat) (hn : n ≤ 8) (B : Nat) (v : Value) (l : List Nat) (w : World) (hO : w.ownsRow B 5 1 v l.length (b8 l)) (hl : l.length ≤ 4000000) (hB : B ≤ w.heap.size) :
  Calls Tryz.prog 54 #[v, .int .u64 (u : Int), .int .i64 (n : Int)] w fun e w' => ∃ v', e = .returned v' ∧ w'.ownsRow B 5 1 v' (l ++ lowL u n).length (b8 (l ++ lowL u n)) ∧ w.grownBy w' v.ownBlock ∧ AtEnd w v v' := by
 obtain ⟨i0, hi, hz0, hz1, hz2⟩ := info_parts Tryz.info5
 obtain ⟨o, c, rfl⟩ := own_form hO
 go_enter Tryz.func54, Tryz.ntmps54
 go_wp2_with fail
 go_loopw [0, 9] (fun a b wr => ∃ (v1 : Value) (k : Nat), a = v1 ∧ b = .int .i64 (k : Int) ∧ k ≤ n ∧ wr.ownsRow B 5 1 v1 (l ++ lowL u k).length (b8 (l ++ lowL u k)) ∧ w.grownBy wr (Value.slice o l.length c).ownBlock ∧ AtEnd w (.slice o l.length c) v1) (fun _ b _ => n - (intOf b).toNat)
 case atStart => exact ⟨_, 0, rfl, rfl, by omega, by simpa [lowL] using hO, grown_of_below (Below.refl _ _) _, .inl rfl⟩
 case round =>
  obtain ⟨v1, k, rfl, rfl, hk, hO1, hg, hat⟩ := hrel
  have hs := hg.size
  have HAT := Lib.hid hat
  clear hat
  have hlen : (l ++ lowL u k).length = l.length + k := by rw [List.length_append, lowL_len]
  obtain ⟨L1, hL1⟩ : ∃ L1, l ++ lowL u k = L1 := ⟨_, rfl⟩
  rw [hL1] at hO1 hlen
  rw [hlen] at hO1
  obtain ⟨m1, hm1⟩ : ∃ m1, l.length + k = m1 := ⟨_, rfl⟩
  rw [hm1] at hO1
  obtain ⟨o1, c1, rfl⟩ := own_form hO1
  by_cases hlt : k < n
  ·have c0 : decide ((k : Int) < (n : Int)) = true := by simp; omega
   have c1' : decide (k < n) = true := by simp; omega
   have hsh : ((u : Int) / 2 ^ (8 * k)) = ((u / 2 ^ (8 * k) : Nat) : Int) := by simp
   have hsn : l ++ lowL u (k + 1) = L1 ++ [u / 2 ^ (8 * k) % 256] := by rw [lowL_snoc, ← List.append_assoc, hL1]
   obtain ⟨q, hq⟩ : ∃ q, u / 2 ^ (8 * k) = q := ⟨_, rfl⟩
   rw [hq] at hsh hsn
   have HSN := Lib.hid hsn
   have HL := Lib.hid (And.intro hlen hm1)
   clear hsn hq hL1 hlen hm1
   have hm1 := HL.out.2
   go_wp2_with (at_builtin; refine wpList_append_own_at _ rfl (.tmp 12) (.tmp 18) 45 rfl B 5 i0 (.int .u8 0) 1 1 Tryz.underlying45 hi hz0 hz1 hz2 rfl (by decide) (.slice o1 m1 c1) m1 (b8 L1) rfl (hO1.alloc _) ⟨wr.heap.size, 0, none⟩ 1 1 [.int .u8 ((q : Int) % 256)] rfl rfl (cell_one_new _ _ _) (by intro x hx; simp at hx; subst hx; rfl) (by unfold maxLen; omega) (by omega) (by simp; omega) ?_; intro v2 w2 hown hgrow hnil hat2; obtain ⟨o2, c2, rfl⟩ := own_form hown)
   have hg2 := grown_tr hg (grown_tr (grown_al _ _) hgrow (.inl rfl)) (r1 := (Value.slice o1 m1 c1).ownBlock) (by rcases HAT.out with h | h; exact .inl h; exact .inr h)
   have hown2 : w2.ownsRow B 5 1 (.slice o2 (m1 + 1) c2) (l ++ lowL u (k + 1)).length (b8 (l ++ lowL u (k + 1))) := by
    rw [HSN.out, b8_snoc, List.length_append, HL.out.1, HL.out.2]
    simpa using hown
   have hat3 : AtEnd w (.slice o l.length c) (.slice o2 (m1 + 1) c2) := by
    rcases hat2 with e | e
    ·rcases HAT.out with h | ⟨g, h, h2⟩
     ·exact .inl (e.trans h)
     ·exact .inr ⟨g, e.trans h, h2⟩
    ·exact .inr ⟨_, e, by simp; omega⟩
   have HRel : ∃ (v1 : Value) (k' : Nat), Value.slice o2 (m1 + 1) c2 = v1 ∧ Value.int IntKind.i64 ((k : Int) + 1) = .int .i64 (k' : Int) ∧ k' ≤ n ∧ w2.ownsRow B 5 1 v1 (l ++ lowL u k').length (b8 (l ++ lowL u k')) ∧ w.grownBy w2 (Value.slice o l.length c).ownBlock ∧ AtEnd w (.slice o l.length c) v1 := ⟨_, k + 1, rfl, by simp, by omega, hown2, hg2, hat3⟩
   clear hown2 hg2 hat3 hown hgrow hat2 hnil hm1
   go_wp2_with fail
   go_roundw
   case rel => first | exact HRel | ((repeat apply Exists.intro); exact ⟨HRel, rfl⟩)
   case measure => simp [intOf]; omega
  ·obtain rfl : k = n := by omega
   have c0 : decide ((k : Int) < (k : Int)) = false := by simp
   have hfin : wr.ownsRow B 5 1 (.slice o1 m1 c1) (l ++ lowL u k).length (b8 (l ++ lowL u k)) := by rw [hL1, hlen, hm1]; exact hO1
   have HFIN := Lib.hid (And.intro hfin (And.intro hg HAT.out))
   clear hfin hg hL1 hlen hm1
   go_wp2_with fail
   go_ret
   exact ⟨_, rfl, HFIN.out.1, HFIN.out.2.1, HFIN.out.2.2⟩
end Go.Proofs.YtbhppbeepmllaaaGreatDoor
