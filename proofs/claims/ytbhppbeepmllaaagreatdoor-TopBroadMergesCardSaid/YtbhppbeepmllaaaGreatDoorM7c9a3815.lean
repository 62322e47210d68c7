import Derived.Test.YtbhppbeepmllaaaGreatDoorMef2bbfa9
import Derived.Test.YtbhppbeepmllaaaGreatDoorMf389b4ca
import Derived.Test.YtbhppbeepmllaaaGreatDoorMe06f6794
import Derived.Test.YtbhppbeepmllaaaGreatDoorM13c95f72
import Derived.Test.YtbhppbeepmllaaaGreatDoorM1c7f1465
set_option linter.unusedVariables false
set_option linter.unusedSimpArgs false
set_option maxRecDepth 100000
set_option maxHeartbeats 2000000
namespace Go.Proofs.YtbhppbeepmllaaaGreatDoor
open Go.RowKit

def dval (l : List UInt8) : Nat := l.foldl (fun n c => n * 10 + (c.toNat - 48)) 0
theorem dval_snoc (l : List UInt8) (c : UInt8) : dval (l ++ [c]) = dval l * 10 + (c.toNat - 48) := by simp [dval]
theorem dval_dec (u : Nat) : dval (Lib.decDigits u) = u := by
 induction u using Nat.strongRecOn with
 | _ u ih =>
  by_cases h : u < 10
  ·rw [Lib.decDigits, dif_pos h]; simp [dval]; omega
  ·rw [Lib.decDigits, dif_neg h, dval_snoc, ih (u / 10) (by omega)]
   simp; omega
theorem dval_le (l : List UInt8) : ∀ r, dval l ≤ dval (l ++ r) := by
 intro r
 induction r generalizing l with
 | nil => simp
 | cons c r ih =>
  have h := ih (l ++ [c])
  rw [List.append_assoc] at h
  refine Nat.le_trans ?_ h
  rw [dval_snoc]; omega
theorem dval_take (l : List UInt8) (k : Nat) : dval (l.take k) ≤ dval l := by
 have h := dval_le (l.take k) (l.drop k)
 rwa [List.take_append_drop] at h
theorem dval_next (l : List UInt8) (k : Nat) (h : k < l.length) : dval (l.take (k + 1)) = dval (l.take k) * 10 + ((l[k]'h).toNat - 48) := by
 rw [List.take_succ_eq_append_getElem h, dval_snoc]
theorem dec_first (u : Nat) (h : u ≠ 0) : ∀ c r, Lib.decDigits u = c :: r → 49 ≤ c.toNat := by
 induction u using Nat.strongRecOn with
 | _ u ih =>
  intro c r hc
  by_cases h10 : u < 10
  ·rw [Lib.decDigits, dif_pos h10] at hc
   simp at hc
   rw [← hc.1]; simp; omega
  ·rw [Lib.decDigits, dif_neg h10] at hc
   obtain ⟨d, t, hd⟩ : ∃ d t, Lib.decDigits (u / 10) = d :: t := by
    match hh : Lib.decDigits (u / 10) with
    | [] => exact absurd hh (decDigits_ne _)
    | d :: t => exact ⟨d, t, rfl⟩
   have h2 := ih (u / 10) (by omega) (by omega) d t hd
   rw [hd] at hc
   simp at hc
   rw [← hc.1]; exact h2
theorem dec_len19 (u : Nat) (h : u ≤ 9223372036854775808) : (Lib.decDigits u).length ≤ 19 := by
 by_cases h1 : 1 ≤ u
 ·have hh := itoa_len (-(u : Int)) (by omega) (by omega)
  rw [Lib.itoa_neg u h1, List.length_cons] at hh
  omega
 ·have e : u = 0 := by omega
  subst e; rw [Lib.decDigits]; decide
theorem bt_mk {s : ByteArray} {l : List UInt8} (hs : s.data.toList = l) (k : Nat) (h : k < l.length) : bt s k = (l[k]'h).toNat := by
 subst hs
 have hk : k < s.size := by simpa using h
 rw [← bt_at hk]
 rfl
theorem num68_neg (N : Nat) (h1 : 1 ≤ N) (hN : N ≤ 9223372036854775808) (s : ByteArray) (hs : s.data.toList = (45 : UInt8) :: Lib.decDigits N) (w : World) :
  Calls Tryz.prog 68 #[.string s] w fun e w' => e = .returned (.tuple #[.int .i64 (-(N : Int)), .bool true]) ∧ w' = w := by
 have hl := dec_len19 N (by omega)
 have hne := decDigits_ne N
 have hl0 : 0 < (Lib.decDigits N).length := List.length_pos_iff.2 hne
 have hsz : s.size = (Lib.decDigits N).length + 1 := by
  have h : s.data.toList.length = s.size := Array.length_toList
  rw [← h, hs]; rfl
 have hby := decDigits_bytes N
 have hbt : ∀ k (h : k < (Lib.decDigits N).length), bt s (k + 1) = ((Lib.decDigits N)[k]'h).toNat := fun k h => by
  rw [bt_mk hs (k + 1) (by simp; omega)]
  rfl
 have hbx : ∀ k (h : k < (Lib.decDigits N).length), 48 ≤ bt s (k + 1) ∧ bt s (k + 1) ≤ 57 := fun k h => by
  rw [hbt k h]; exact hby _ (List.getElem_mem h)
 have hval := dval_dec N
 have hnx : ∀ k, k < (Lib.decDigits N).length → dval ((Lib.decDigits N).take (k + 1)) = dval ((Lib.decDigits N).take k) * 10 + (bt s (k + 1) - 48) := fun k h => by
  rw [dval_next _ k h, hbt k h]
 have hmx : ∀ k, dval ((Lib.decDigits N).take k) ≤ N := fun k => by have := dval_take (Lib.decDigits N) k; omega
 have hend : dval ((Lib.decDigits N).take (Lib.decDigits N).length) = N := by rw [List.take_length]; exact hval
 have hfst : bt s 1 = 48 → N = 0 ∧ (Lib.decDigits N).length = 1 := by
  intro h48
  by_cases h0 : N = 0
  ·refine ⟨h0, ?_⟩; subst h0; rw [Lib.decDigits]; rfl
  ·exfalso
   obtain ⟨c, r, hc⟩ : ∃ c r, Lib.decDigits N = c :: r := by
    match hh : Lib.decDigits N with
    | [] => exact absurd hh hne
    | c :: r => exact ⟨c, r, rfl⟩
   have h49 := dec_first N h0 c r hc
   have := hbt 0 hl0
   simp only [hc, List.getElem_cons_zero] at this
   rw [Nat.zero_add] at this
   omega
 have hk0 := hbx 0 hl0
 rw [Nat.zero_add] at hk0
 obtain ⟨n, hn⟩ : ∃ n, (Lib.decDigits N).length = n := ⟨_, rfl⟩
 obtain ⟨F, hF⟩ : ∃ F : Nat → Nat, (fun k => dval ((Lib.decDigits N).take k)) = F := ⟨_, rfl⟩
 have hF' : ∀ k, dval ((Lib.decDigits N).take k) = F k := fun k => congrFun hF k
 simp only [hF'] at hnx hmx hend
 rw [hn] at hl hl0 hsz hnx hend hfst
 have hbx2 : ∀ k, k < n → 48 ≤ bt s (k + 1) ∧ bt s (k + 1) ≤ 57 := fun k h => hbx k (by omega)
 have hF0 : F 0 = 0 := by rw [← hF' 0]; rfl
 have HX := Lib.hid (And.intro hnx (And.intro hmx (And.intro hend (And.intro hbx2 hfst))))
 have h45 : bt s 0 = 45 := by rw [bt_mk hs 0 (by simp)]; rfl
 clear hs hby hbt hbx hval hnx hmx hend hfst hne hn hF hF' hbx2
 have hz : 0 < s.size := by omega
 have e0 := bt_at hz
 have hz1 : 1 < s.size := by omega
 have e1 := bt_at hz1
 have d1 : (((((s[0]'hz).toNat : Nat) : Int)) == 45) = true := by rw [e0, h45]; rfl
 have d2 : (((((s[1]'hz1).toNat : Nat) : Int)) == 48) = false := by
  rw [e1]
  have h : bt s 1 ≠ 48 := fun h => by have := HX.out.2.2.2.2 h; omega
  simp; omega
 have d0 : decide ((0 : Int) < s.size) = true := by simp; omega
 have d3 : ((1 : Int) == s.size) = false := by simp; omega
 have d4 : decide ((19 : Int) < s.size - 1) = false := by simp; omega
 have HZ := Lib.hid hsz
 have hs20 : s.size ≤ 20 := by omega
 clear e0 e1 h45 hk0 hsz
 go_enter Tryz.func68, Tryz.ntmps68
 go_wp2
 go_loop [5, 6] (fun e i => ∃ k : Nat, k ≤ n ∧ e = .int .u64 (F k : Int) ∧ i = .int .i64 ((k + 1 : Nat) : Int)) (fun _ i => n + 1 - (intOf i).toNat)
 case atStart => exact ⟨0, by omega, by rw [hF0]; rfl, rfl⟩
 case round =>
  obtain ⟨k, hk, rfl, rfl⟩ := hrel
  by_cases hlt : k < n
  ·have hks : k + 1 < s.size := by have := HZ.out; omega
   obtain ⟨b1, b2⟩ := HX.out.2.2.2.1 k hlt
   have hnx := HX.out.1 k hlt
   have hmx := HX.out.2.1 (k + 1)
   obtain ⟨Fn, hFn⟩ : ∃ Fn, F (k + 1) = Fn := ⟨_, rfl⟩
   rw [hFn] at hnx hmx
   obtain ⟨j, hj⟩ : ∃ j, k + 1 = j := ⟨_, rfl⟩
   rw [hj] at b1 b2 hnx hks ⊢
   have e3 := bt_at hks
   obtain ⟨b, hb⟩ : ∃ b, (s[j]'hks).toNat = b := ⟨_, rfl⟩
   rw [← e3, hb] at b1 b2 hnx
   have c0 : decide ((j : Int) < s.size) = true := by simp; omega
   have c1 : decide ((b : Int) < 48) = false := by simp; omega
   have c2 : decide ((57 : Int) < (b : Int)) = false := by simp; omega
   obtain ⟨Fk, hFk⟩ : ∃ Fk, F k = Fk := ⟨_, rfl⟩
   rw [hFk] at hnx ⊢
   have HN := Lib.hid (And.intro hnx (And.intro hj hFn))
   have hFb : Fk * 10 + (b - 48) ≤ 9223372036854775808 := by rw [← hnx]; omega
   clear hnx hFk hj hFn e3
   go_wp2_with fail
   go_round
   case rel => exact ⟨k + 1, by omega, by have h := HN.out.1; rw [HN.out.2.2]; congr 1; omega, by rw [← HN.out.2.1]; go_num⟩
   case measure => have := HN.out.2.1; simp [intOf]; omega
  ·obtain rfl : k = n := by omega
   have c0 : decide (((k + 1 : Nat) : Int) < s.size) = false := by have := HZ.out; simp; omega
   obtain ⟨j, hj⟩ : ∃ j, k + 1 = j := ⟨_, rfl⟩
   rw [hj] at c0 ⊢
   have hns : ¬ j < s.size := by simp at c0; omega
   rw [HX.out.2.2.1]
   clear hj
   go_wp2_with fail
   have e1 : decide ((N : Int) ≤ 9223372036854775808) = true := by simp; omega
   have e2 : wrap64 (IntKind.u64.wrap (-(N : Int))) = -(N : Int) := by simp [wrap64, IntKind.wrap, IntKind.bits, IntKind.signed]; omega
   rw [e1, e2]
   go_ret2
   exact ⟨rfl, rfl⟩
theorem num68_pos (N : Nat) (hN : N ≤ 9223372036854775807) (s : ByteArray) (hs : s.data.toList = Lib.decDigits N) (w : World) :
  Calls Tryz.prog 68 #[.string s] w fun e w' => e = .returned (.tuple #[.int .i64 ((N : Int)), .bool true]) ∧ w' = w := by
 have hl := dec_len19 N (by omega)
 have hne := decDigits_ne N
 have hl0 : 0 < (Lib.decDigits N).length := List.length_pos_iff.2 hne
 have hsz : s.size = (Lib.decDigits N).length + 0 := by
  have h : s.data.toList.length = s.size := Array.length_toList
  rw [← h, hs]; rfl
 have hby := decDigits_bytes N
 have hbt : ∀ k (h : k < (Lib.decDigits N).length), bt s (k + 0) = ((Lib.decDigits N)[k]'h).toNat := fun k h => by
  rw [bt_mk hs (k + 0) (by simp; omega)]
  rfl
 have hbx : ∀ k (h : k < (Lib.decDigits N).length), 48 ≤ bt s (k + 0) ∧ bt s (k + 0) ≤ 57 := fun k h => by
  rw [hbt k h]; exact hby _ (List.getElem_mem h)
 have hval := dval_dec N
 have hnx : ∀ k, k < (Lib.decDigits N).length → dval ((Lib.decDigits N).take (k + 1)) = dval ((Lib.decDigits N).take k) * 10 + (bt s (k + 0) - 48) := fun k h => by
  rw [dval_next _ k h, hbt k h]
 have hmx : ∀ k, dval ((Lib.decDigits N).take k) ≤ N := fun k => by have := dval_take (Lib.decDigits N) k; omega
 have hend : dval ((Lib.decDigits N).take (Lib.decDigits N).length) = N := by rw [List.take_length]; exact hval
 have hfst : bt s 0 = 48 → N = 0 ∧ (Lib.decDigits N).length = 1 := by
  intro h48
  by_cases h0 : N = 0
  ·refine ⟨h0, ?_⟩; subst h0; rw [Lib.decDigits]; rfl
  ·exfalso
   obtain ⟨c, r, hc⟩ : ∃ c r, Lib.decDigits N = c :: r := by
    match hh : Lib.decDigits N with
    | [] => exact absurd hh hne
    | c :: r => exact ⟨c, r, rfl⟩
   have h49 := dec_first N h0 c r hc
   have := hbt 0 hl0
   simp only [hc, List.getElem_cons_zero] at this
   rw [Nat.zero_add] at this
   omega
 have hk0 := hbx 0 hl0
 rw [Nat.zero_add] at hk0
 obtain ⟨n, hn⟩ : ∃ n, (Lib.decDigits N).length = n := ⟨_, rfl⟩
 obtain ⟨F, hF⟩ : ∃ F : Nat → Nat, (fun k => dval ((Lib.decDigits N).take k)) = F := ⟨_, rfl⟩
 have hF' : ∀ k, dval ((Lib.decDigits N).take k) = F k := fun k => congrFun hF k
 simp only [hF'] at hnx hmx hend
 rw [hn] at hl hl0 hsz hnx hend hfst
 have hbx2 : ∀ k, k < n → 48 ≤ bt s (k + 0) ∧ bt s (k + 0) ≤ 57 := fun k h => hbx k (by omega)
 have hF0 : F 0 = 0 := by rw [← hF' 0]; rfl
 have HX := Lib.hid (And.intro hnx (And.intro hmx (And.intro hend (And.intro hbx2 hfst))))
 clear hs hby hbt hbx hval hnx hmx hend hfst hne hn hF hF' hbx2
 have hz : 0 < s.size := by omega
 have e0 := bt_at hz
 have d1 : (((((s[0]'hz).toNat : Nat) : Int)) == 45) = false := by rw [e0]; simp; omega
 have d0 : decide ((0 : Int) < s.size) = true := by simp; omega
 have d3 : ((0 : Int) == s.size) = false := by simp; omega
 have d4 : decide ((19 : Int) < s.size) = false := by simp; omega
 obtain ⟨bz, hbz⟩ : ∃ bz : Bool, (((((s[0]'hz).toNat : Nat) : Int)) == 48) = bz := ⟨_, rfl⟩
 have d5 : bz = true → s.size = 1 := by
  intro hb
  rw [← hbz, e0] at hb
  have h : bt s 0 = 48 := by simp at hb; omega
  have := HX.out.2.2.2.2 h
  omega
 have hfin : bz = false ∨ decide ((1 : Int) < s.size) = false := by
  cases bz
  ·exact .inl rfl
  ·refine .inr ?_
   have := d5 rfl
   simp; omega
 have HZ := Lib.hid hsz
 have hs20 : s.size ≤ 20 := by omega
 clear e0 hk0 d5 hsz
 go_enter Tryz.func68, Tryz.ntmps68
 rcases hfin with hfin | hfin
 all_goals (try (cases bz))
 all_goals (try (exact absurd hfin (by decide)))
 all_goals go_wp2
 all_goals
  go_loop [5, 6] (fun e i => ∃ k : Nat, k ≤ n ∧ e = .int .u64 (F k : Int) ∧ i = .int .i64 ((k + 0 : Nat) : Int)) (fun _ i => n + 0 - (intOf i).toNat)
  case atStart => exact ⟨0, by omega, by rw [hF0]; rfl, rfl⟩
  case round =>
   obtain ⟨k, hk, rfl, rfl⟩ := hrel
   by_cases hlt : k < n
   ·have hks : k + 0 < s.size := by have := HZ.out; omega
    obtain ⟨b1, b2⟩ := HX.out.2.2.2.1 k hlt
    have hnx := HX.out.1 k hlt
    have hmx := HX.out.2.1 (k + 1)
    obtain ⟨Fn, hFn⟩ : ∃ Fn, F (k + 1) = Fn := ⟨_, rfl⟩
    rw [hFn] at hnx hmx
    obtain ⟨j, hj⟩ : ∃ j, k + 0 = j := ⟨_, rfl⟩
    rw [hj] at b1 b2 hnx hks ⊢
    have e3 := bt_at hks
    obtain ⟨b, hb⟩ : ∃ b, (s[j]'hks).toNat = b := ⟨_, rfl⟩
    rw [← e3, hb] at b1 b2 hnx
    have c0 : decide ((j : Int) < s.size) = true := by simp; omega
    have c1 : decide ((b : Int) < 48) = false := by simp; omega
    have c2 : decide ((57 : Int) < (b : Int)) = false := by simp; omega
    obtain ⟨Fk, hFk⟩ : ∃ Fk, F k = Fk := ⟨_, rfl⟩
    rw [hFk] at hnx ⊢
    have HN := Lib.hid (And.intro hnx (And.intro hj hFn))
    have hFb : Fk * 10 + (b - 48) ≤ 9223372036854775808 := by rw [← hnx]; omega
    clear hnx hFk hj hFn e3
    go_wp2_with fail
    go_round
    case rel => exact ⟨k + 1, by omega, by have h := HN.out.1; rw [HN.out.2.2]; congr 1; omega, by rw [← HN.out.2.1]; go_num⟩
    case measure => have := HN.out.2.1; simp [intOf]; omega
   ·obtain rfl : k = n := by omega
    have c0 : decide (((k + 0 : Nat) : Int) < s.size) = false := by have := HZ.out; simp; omega
    obtain ⟨j, hj⟩ : ∃ j, k + 0 = j := ⟨_, rfl⟩
    rw [hj] at c0 ⊢
    have hns : ¬ j < s.size := by simp at c0; omega
    rw [HX.out.2.2.1]
    clear hj
    go_wp2_with fail
    have e1 : decide ((N : Int) ≤ 9223372036854775807) = true := by simp; omega
    rw [e1]
    go_ret2
    exact ⟨rfl, rfl⟩
end Go.Proofs.YtbhppbeepmllaaaGreatDoor

namespace Go.Proofs.YtbhppbeepmllaaaGreatDoor
open Go.RowKit

theorem num68_any (n : Int) (h0 : -9223372036854775808 ≤ n) (h1 : n ≤ 9223372036854775807) (s : ByteArray) (hs : s.data.toList = Lib.itoa n) (w : World) :
  Calls Tryz.prog 68 #[.string s] w fun e w' => e = .returned (.tuple #[.int .i64 n, .bool true]) ∧ w' = w := by
 by_cases hneg : n < 0
 ·obtain ⟨u, hu, hu1⟩ : ∃ u : Nat, n = -(u : Int) ∧ 1 ≤ u := ⟨(-n).toNat, by omega, by omega⟩
  subst hu
  rw [Lib.itoa_neg u hu1] at hs
  exact num68_neg u hu1 (by omega) s hs w
 ·obtain ⟨u, hu⟩ : ∃ u : Nat, n = (u : Int) := ⟨n.toNat, by omega⟩
  subst hu
  rw [Lib.itoa_nonneg u] at hs
  exact num68_pos u (by omega) s hs w
theorem sOf_fst (x r : List UInt8) : (sOf (x ++ r)).extract 0 x.length = sOf x := by
 apply ByteArray.ext
 apply Array.ext'
 simp [sOf]
theorem sOf_rst (x r : List UInt8) : (sOf (x ++ r)).extract x.length (sOf (x ++ r)).size = sOf r := by
 apply ByteArray.ext
 apply Array.ext'
 simp [sOf, ByteArray.size]
theorem topnum_any (p : List UInt8) (hp : p.length ≤ 100) (n : Int) (h0 : -9223372036854775808 ≤ n) (h1 : n ≤ 9223372036854775807) (w : World) :
  Calls Tryz.prog 26 #[.string (sOf (p ++ Lib.itoa n)), .string (sOf p)] w fun e w' => e = .returned (.tuple #[.int .i64 n, .bool true]) ∧ w' = w := by
 have HN := Lib.hid (num68_any n h0 h1 (sOf (Lib.itoa n)) rfl w)
 have hl := itoa_len n h0 h1
 have hne : 0 < (Lib.itoa n).length := List.length_pos_iff.2 (itoa_ne n)
 have e1 := sOf_fst p (Lib.itoa n)
 have e2 := sOf_rst p (Lib.itoa n)
 have hS : (sOf (p ++ Lib.itoa n)).size = p.length + (Lib.itoa n).length := by rw [sOf_size, List.length_append]
 have hP : (sOf p).size = p.length := sOf_size p
 obtain ⟨S, hSS⟩ : ∃ S, sOf (p ++ Lib.itoa n) = S := ⟨_, rfl⟩
 obtain ⟨R, hR⟩ : ∃ R, sOf (Lib.itoa n) = R := ⟨_, rfl⟩
 obtain ⟨Q, hQ⟩ : ∃ Q, sOf p = Q := ⟨_, rfl⟩
 rw [hSS] at e1 e2 hS ⊢
 rw [hR] at e2 HN
 rw [hQ] at e1 hP ⊢
 obtain ⟨a, ha⟩ : ∃ a, p.length = a := ⟨_, rfl⟩
 obtain ⟨b, hb⟩ : ∃ b, (Lib.itoa n).length = b := ⟨_, rfl⟩
 rw [ha] at e1 e2 hS hP hp
 rw [hb] at hS hne hl
 rw [hS] at e2
 have d1 : decide ((a : Int) + b ≤ (a : Int)) = false := by simp; omega
 clear hSS hR hQ ha hb
 go_enter Tryz.func26, Tryz.ntmps26
 go_wp2_with fail
 refine HN.out.mono ?_
 rintro e w1 ⟨rfl, rfl⟩
 go_wp2_with fail
 go_ret2
 exact ⟨rfl, rfl⟩
def rightP (b r wd m : Int) : Prop := (1 ≤ b ∧ b ≤ 59) ∧ (1 ≤ r ∧ r ≤ 8) ∧ (1 ≤ wd ∧ wd ≤ 128) ∧ (m = 1 ∨ m = 2 ∨ m = 3)
instance (b r wd m : Int) : Decidable (rightP b r wd m) := by unfold rightP; infer_instance
theorem right_yes (b r wd m : Int) (s : Int) (h : rightP b r wd m) (w : World) :
  Calls Tryz.prog 47 #[.agg #[.int .i64 b, .int .i64 r, .int .i64 wd, .int .i64 m, .int .u64 s]] w fun e w' => e = .returned (.bool true) ∧ Below w.heap.size w w' := by
 obtain ⟨⟨b1, b2⟩, ⟨r1, r2⟩, ⟨w1, w2⟩, hm⟩ := h
 have x0 : (w.alloc (.cells #[.int .i64 b, .int .i64 r, .int .i64 wd, .int .i64 m, .int .u64 s] 24)).heap[w.heap.size]? = some (Obj.cells #[.int .i64 b, .int .i64 r, .int .i64 wd, .int .i64 m, .int .u64 s] 24 (0, 0)) := heap_alloc_at _ rfl
 have kb : Below w.heap.size w (w.alloc (.cells #[.int .i64 b, .int .i64 r, .int .i64 wd, .int .i64 m, .int .u64 s] 24)) := (Below.refl _ _).alloc (Nat.le_refl _) _
 have q0 := cell_of_heap x0 0 _ rfl
 have q1 := cell_of_heap x0 1 _ rfl
 have q2 := cell_of_heap x0 2 _ rfl
 have q3 := cell_of_heap x0 3 _ rfl
 have q4 := cell_of_heap x0 4 _ rfl
 have d1 : decide ((1 : Int) ≤ b) = true := by simpa using b1
 have d2 : decide (b ≤ (59 : Int)) = true := by simpa using b2
 have d3 : decide ((1 : Int) ≤ r) = true := by simpa using r1
 have d4 : decide (r ≤ (8 : Int)) = true := by simpa using r2
 have d5 : decide ((1 : Int) ≤ wd) = true := by simpa using w1
 have d6 : decide (wd ≤ (128 : Int)) = true := by simpa using w2
 go_enter Tryz.func47, Tryz.ntmps47
 rcases hm with rfl | rfl | rfl
 all_goals go_wp2_with fail
 all_goals go_ret
 all_goals exact ⟨rfl, kb⟩
theorem right_no (b r wd m : Int) (s : Int) (h : ¬ rightP b r wd m) (w : World) :
  Calls Tryz.prog 47 #[.agg #[.int .i64 b, .int .i64 r, .int .i64 wd, .int .i64 m, .int .u64 s]] w fun e w' => e = .returned (.bool false) ∧ Below w.heap.size w w' := by
 have x0 : (w.alloc (.cells #[.int .i64 b, .int .i64 r, .int .i64 wd, .int .i64 m, .int .u64 s] 24)).heap[w.heap.size]? = some (Obj.cells #[.int .i64 b, .int .i64 r, .int .i64 wd, .int .i64 m, .int .u64 s] 24 (0, 0)) := heap_alloc_at _ rfl
 have kb : Below w.heap.size w (w.alloc (.cells #[.int .i64 b, .int .i64 r, .int .i64 wd, .int .i64 m, .int .u64 s] 24)) := (Below.refl _ _).alloc (Nat.le_refl _) _
 have q0 := cell_of_heap x0 0 _ rfl
 have q1 := cell_of_heap x0 1 _ rfl
 have q2 := cell_of_heap x0 2 _ rfl
 have q3 := cell_of_heap x0 3 _ rfl
 have q4 := cell_of_heap x0 4 _ rfl
 unfold rightP at h
 have H := Lib.hid h
 clear h
 go_enter Tryz.func47, Tryz.ntmps47
 go_wp2_with fail
 all_goals go_ret
 all_goals refine ⟨congrArg (fun z => Ending.returned (Value.bool z)) ?_, (Below.refl _ _).alloc (Nat.le_refl _) _⟩
 all_goals have h := H.out
 all_goals (first | rfl | (simp; omega) | (exfalso; simp at h; omega))
theorem topright (b r wd m : Int) (s : Int) (w : World) :
  Calls Tryz.prog 11 #[.agg #[.int .i64 b, .int .i64 r, .int .i64 wd, .int .i64 m, .int .u64 s]] w fun e w' => e = .returned (.bool (decide (rightP b r wd 1))) ∧ Below w.heap.size w w' := by
 have x0 : (w.alloc (.cells #[.int .i64 b, .int .i64 r, .int .i64 wd, .int .i64 m, .int .u64 s] 24)).heap[w.heap.size]? = some (Obj.cells #[.int .i64 b, .int .i64 r, .int .i64 wd, .int .i64 m, .int .u64 s] 24 (0, 0)) := heap_alloc_at _ rfl
 have x1 := heap_setCell_same _ _ 3 _ _ (.int .i64 1) x0
 have kb : Below w.heap.size w ((w.alloc (.cells #[.int .i64 b, .int .i64 r, .int .i64 wd, .int .i64 m, .int .u64 s] 24)).setCell ⟨w.heap.size, 3, none⟩ (.int .i64 1)) := ((Below.refl _ _).alloc (Nat.le_refl _) _).setCell (by simp) _
 obtain ⟨W, hW⟩ : ∃ W, (w.alloc (.cells #[.int .i64 b, .int .i64 r, .int .i64 wd, .int .i64 m, .int .u64 s] 24)).setCell ⟨w.heap.size, 3, none⟩ (.int .i64 1) = W := ⟨_, rfl⟩
 rw [hW] at x1 kb
 have x2 : W.heap[w.heap.size]? = some (Obj.cells #[.int .i64 b, .int .i64 r, .int .i64 wd, .int .i64 1, .int .u64 s] 24 (0, 0)) := x1
 have q0 := cell_of_heap x2 0 _ rfl
 have q1 := cell_of_heap x2 1 _ rfl
 have q2 := cell_of_heap x2 2 _ rfl
 have q3 := cell_of_heap x2 3 _ rfl
 have q4 := cell_of_heap x2 4 _ rfl
 have HR := Lib.hid fun w => (show Calls Tryz.prog 47 #[.agg #[.int .i64 b, .int .i64 r, .int .i64 wd, .int .i64 1, .int .u64 s]] w fun e w' => e = .returned (.bool (decide (rightP b r wd 1))) ∧ Below w.heap.size w w' by
  by_cases h : rightP b r wd 1
  ·rw [decide_eq_true h]; exact right_yes b r wd 1 s h w
  ·rw [decide_eq_false h]; exact right_no b r wd 1 s h w)
 obtain ⟨B, hB⟩ : ∃ B, decide (rightP b r wd 1) = B := ⟨_, rfl⟩
 rw [hB] at HR ⊢
 clear x1 x2 hB
 go_enter Tryz.func11, Tryz.ntmps11
 go_wp2_with fail
 refine (HR.out W).mono ?_
 rintro e w1 ⟨rfl, hb⟩
 have hk := kb.trans (hb.mono kb.size)
 go_wp2_with fail
 go_ret
 exact ⟨rfl, hk⟩
end Go.Proofs.YtbhppbeepmllaaaGreatDoor

namespace Go.Proofs.YtbhppbeepmllaaaGreatDoor
open Go.RowKit

theorem Cfg.Ok.right {c : Cfg} (R : c.Ok) : rightP c.b c.r c.wd c.m := by
 have := R.b1; have := R.b2; have := R.r1; have := R.r2; have := R.w1; have := R.w2; have := R.m1; have := R.m2
 unfold rightP
 omega
theorem gkeys_any (c : Cfg) (R : c.Ok) (l : Nat) (hl : l ≤ c.b) (w : World) :
  Calls Tryz.prog 35 #[.agg #[.int .i64 c.b, .int .i64 c.r, .int .i64 c.wd, .int .i64 c.m, .int .u64 c.s], .int .i64 l] w fun e w' => e = .returned (.int .u64 (c.keys l : Nat)) ∧ Below w.heap.size w w' := by
 have HR := Lib.hid fun w => right_yes c.b c.r c.wd c.m c.s R.right w
 have hk59 := c.keys_le R l
 have hb2 := R.b2
 have hke : c.keys l = 2 ^ (c.b - l) := rfl
 have hpow : ∀ j, l ≤ j → j < c.b → 2 ^ (j + 1 - l) = 2 ^ (j - l) * 2 ∧ 2 ^ (j - l) < 576460752303423488 := by
  intro j h1 h2
  have e : j + 1 - l = (j - l) + 1 := by omega
  refine ⟨by rw [e, Nat.pow_succ], ?_⟩
  exact Nat.lt_of_lt_of_le (Nat.pow_lt_pow_right (by decide) (show j - l < 59 by omega)) (by decide)
 have HP := Lib.hid (And.intro hke hpow)
 have x0 : (w.alloc (.cells #[.int .i64 c.b, .int .i64 c.r, .int .i64 c.wd, .int .i64 c.m, .int .u64 c.s] 24)).heap[w.heap.size]? = some (Obj.cells #[.int .i64 c.b, .int .i64 c.r, .int .i64 c.wd, .int .i64 c.m, .int .u64 c.s] 24 (0, 0)) := heap_alloc_at _ rfl
 have kb : Below w.heap.size w (w.alloc (.cells #[.int .i64 c.b, .int .i64 c.r, .int .i64 c.wd, .int .i64 c.m, .int .u64 c.s] 24)) := (Below.refl _ _).alloc (Nat.le_refl _) _
 have q0 := cell_of_heap x0 0 _ rfl
 have q1 := cell_of_heap x0 1 _ rfl
 have q2 := cell_of_heap x0 2 _ rfl
 have q3 := cell_of_heap x0 3 _ rfl
 have q4 := cell_of_heap x0 4 _ rfl
 have d1 : decide ((l : Int) < 0) = false := by simp
 have d2 : decide ((c.b : Int) < (l : Int)) = false := by simp; omega
 have lx : w.heap.size < (w.alloc (.cells #[.int .i64 c.b, .int .i64 c.r, .int .i64 c.wd, .int .i64 c.m, .int .u64 c.s] 24)).heap.size := by simp
 clear hke hpow x0
 go_enter Tryz.func35, Tryz.ntmps35
 go_wp2_with fail
 refine (HR.out _).mono ?_
 rintro e w1 ⟨rfl, hb⟩
 have hk := kb.trans (hb.mono kb.size)
 have p0 := (hb.cell (p := ⟨w.heap.size, 0, none⟩) lx).trans q0
 clear q0 q1 q2 q3 q4 hb kb
 go_wp2_with fail
 go_loop [5, 6] (fun v i => ∃ j : Nat, l ≤ j ∧ j ≤ c.b ∧ v = .int .u64 ((2 ^ (j - l) : Nat) : Int) ∧ i = .int .i64 (j : Int)) (fun _ i => c.b - (intOf i).toNat)
 case atStart => exact ⟨l, Nat.le_refl _, hl, by simp, rfl⟩
 case round =>
  obtain ⟨j, hj1, hj2, rfl, rfl⟩ := hrel
  by_cases hlt : j < c.b
  ·obtain ⟨hp, hp2⟩ := HP.out.2 j hj1 hlt
   have c0 : decide ((j : Int) < c.b) = true := by simp; omega
   obtain ⟨x, hx⟩ : ∃ x, 2 ^ (j - l) = x := ⟨_, rfl⟩
   rw [hx] at hp hp2 ⊢
   have HX := Lib.hid hp
   clear hx hp
   go_wp2_with fail
   go_round
   case rel => exact ⟨j + 1, by omega, by omega, by rw [HX.out]; simp, by simp⟩
   case measure => simp [intOf]; omega
  ·obtain rfl : j = c.b := by omega
   rw [← HP.out.1]
   have c0 : ¬ c.b < c.b := by omega
   go_wp2_with fail
   go_ret
   exact ⟨rfl, hk⟩
theorem gexact_any (c : Cfg) (R : c.Ok) (l : Nat) (hl : l ≤ c.b) (w : World) :
  Calls Tryz.prog 20 #[.agg #[.int .i64 c.b, .int .i64 c.r, .int .i64 c.wd, .int .i64 c.m, .int .u64 c.s], .int .i64 l] w fun e w' => e = .returned (.bool (decide (c.keys l ≤ c.wd))) ∧ Below w.heap.size w w' := by
 have HK := Lib.hid fun w => gkeys_any c R l hl w
 have hk59 := c.keys_le R l
 have hk1 : 1 ≤ c.keys l := Nat.one_le_two_pow
 have hw2 := R.w2
 have x0 : (w.alloc (.cells #[.int .i64 c.b, .int .i64 c.r, .int .i64 c.wd, .int .i64 c.m, .int .u64 c.s] 24)).heap[w.heap.size]? = some (Obj.cells #[.int .i64 c.b, .int .i64 c.r, .int .i64 c.wd, .int .i64 c.m, .int .u64 c.s] 24 (0, 0)) := heap_alloc_at _ rfl
 have kb : Below w.heap.size w (w.alloc (.cells #[.int .i64 c.b, .int .i64 c.r, .int .i64 c.wd, .int .i64 c.m, .int .u64 c.s] 24)) := (Below.refl _ _).alloc (Nat.le_refl _) _
 have q0 := cell_of_heap x0 0 _ rfl
 have q1 := cell_of_heap x0 1 _ rfl
 have q2 := cell_of_heap x0 2 _ rfl
 have q3 := cell_of_heap x0 3 _ rfl
 have q4 := cell_of_heap x0 4 _ rfl
 have lx : w.heap.size < (w.alloc (.cells #[.int .i64 c.b, .int .i64 c.r, .int .i64 c.wd, .int .i64 c.m, .int .u64 c.s] 24)).heap.size := by simp
 obtain ⟨k, hke⟩ : ∃ k, c.keys l = k := ⟨_, rfl⟩
 rw [hke] at HK hk59 hk1 ⊢
 clear hke x0
 go_enter Tryz.func20, Tryz.ntmps20
 go_wp2_with fail
 refine (HK.out _).mono ?_
 rintro e w1 ⟨rfl, hb⟩
 have hk := kb.trans (hb.mono kb.size)
 have p2 := (hb.cell (p := ⟨w.heap.size, 2, none⟩) lx).trans q2
 clear q0 q1 q2 q3 q4 hb kb
 go_wp2_with fail
 go_ret
 refine ⟨congrArg (fun z => Ending.returned (Value.bool z)) ?_, hk⟩
 rfl
end Go.Proofs.YtbhppbeepmllaaaGreatDoor

namespace Go.Proofs.YtbhppbeepmllaaaGreatDoor
open Go.RowKit

theorem wtext_zero (w : World) : Calls Tryz.prog 86 #[.agg #[.int .i64 0, .int .u64 0]] w fun e w' => e = .returned (.string (sOf [48])) ∧ Below w.heap.size w w' := by
 obtain ⟨i0, hi, hz0, hz1, hz2⟩ := info_parts bdByte
 have hb0 : Below w.heap.size w (w.alloc (.cells #[.int .i64 0, .int .u64 0] 188)) := (Below.refl _ _).alloc (Nat.le_refl _) _
 have HS := Lib.hid (wsize_pos 0 (by decide) (w.alloc (.cells #[.int .i64 0, .int .u64 0] 188)))
 have HB := Lib.hid hb0
 clear hb0
 go_enter Tryz.func86, Tryz.ntmps86
 go_wp2_with fail
 refine HS.out.mono ?_
 rintro e w1 ⟨rfl, hb1⟩
 have x1 : w1.heap[w.heap.size]? = some (.cells #[.int .i64 0, .int .u64 0] 188 (0, 0)) := (hb1.block _ (by simp)).trans (heap_alloc_at _ rfl)
 have b1 := HB.out.trans (hb1.mono HB.out.size)
 have hsz : w.heap.size + 1 ≤ w1.heap.size := by have := hb1.size; simpa using this
 have HX := Lib.hid (And.intro x1 b1)
 clear HS HB hb1 x1 b1
 go_wp2_with fail
 refine wp_loop_rounds 2 ?_
 rw [rounds_succ]
 have HD := Lib.hid (div64_ten 0 (by decide) w1)
 go_wp2_with fail
 refine HD.out.mono ?_
 rintro e w2 ⟨rfl, hb2⟩
 have hx2 := (hb2.block w.heap.size (by omega)).trans HX.out.1
 have hB2 := HX.out.2.trans (hb2.mono HX.out.2.size)
 have hsz3 := hb2.size
 have hB2a := hB2.alloc hB2.size (.cells #[.int .u8 48] 5)
 have hO2 : (w2.alloc (.cells #[.int .u8 48] 5)).ownsRow (w.heap.size + 1) 5 1 (.slice none 0 0) 0 [] := World.ownsRow_nil _ _ _ _
 have HB2 := Lib.hid (And.intro hB2a hx2)
 clear hB2 hb2 hB2a hx2 HX HD
 go_wp2_with (at_builtin; refine wpList_append_own _ rfl _ _ 45 rfl (w.heap.size + 1) 5 i0 (.int .u8 0) 1 1 Tryz.underlying45 hi hz0 hz1 hz2 rfl (by decide) _ _ _ rfl hO2 ⟨w2.heap.size, 0, none⟩ 1 1 [.int .u8 48] rfl rfl ?c1 ?c2 ?c3 ?c4 ?c5 ?_)
 case c1 =>
  intro j u hj
  match j, hj with
  | 0, hj => simp at hj; subst hj; simp [Addr.add]
 case c2 => intro u hu; simp at hu; subst hu; rfl
 case c3 => unfold maxLen; omega
 case c4 => omega
 case c5 => simp; omega
 intro v' w3 hO3 hg3 _
 obtain ⟨g', cap', hv⟩ := own_succ' hO3
 subst hv
 have hlg' := (hO3.lt g' rfl).1
 have hx3 := (hg3.block w.heap.size (by simp; omega) (by intro e; have := (hO2.lt _ e.symm).1; omega)).trans ((Lib.alloc_old _ _ _ (by omega)).trans HB2.out.2)
 have hB3 : Below w.heap.size w w3 := HB2.out.1.grown hg3 (by simp; omega) (fun b e => by have := (hO2.lt b e).1; omega)
 have q0 := cell_of_heap hx3 0 _ rfl
 have HR := Lib.hid (reversed_any [48] g' cap' w3 (by simp) (by simp) (hO3.mono (Nat.zero_le _)))
 have HB3 := Lib.hid hB3
 clear hO2 hO3 hg3 hB3 HB2 hx3
 go_wp2_with fail
 rw [rounds_succ]
 go_wp2_with fail
 refine HR.out.mono ?_
 rintro e w5 ⟨rfl, hG⟩
 clear HR
 go_wp2_with fail
 go_ret
 exact ⟨rfl, HB3.out.grown hG HB3.out.size (fun b e => by cases e; omega)⟩
theorem wtext_any (n : Int) (h0 : -9223372036854775807 ≤ n) (h1 : n ≤ 9223372036854775807) (w : World) : Calls Tryz.prog 86 #[wv n] w fun e w' => e = .returned (.string (sOf (Lib.itoa n))) ∧ Below w.heap.size w w' := by
 unfold wv
 by_cases h : n < 0
 ·obtain ⟨k, rfl⟩ : ∃ k : Nat, n = -(k : Int) := ⟨n.natAbs, by omega⟩
  rw [if_pos h]
  refine (wtext_neg k (by omega) (by omega) w).mono ?_
  rintro e w' ⟨rfl, hb⟩
  exact ⟨by rw [Lib.itoa_neg k (by omega)], hb⟩
 ·obtain ⟨k, rfl⟩ : ∃ k : Nat, n = (k : Int) := ⟨n.toNat, by omega⟩
  rw [if_neg h]
  by_cases hk : k = 0
  ·subst hk
   refine (wtext_zero w).mono ?_
   rintro e w' ⟨rfl, hb⟩
   exact ⟨by rw [Lib.itoa_nonneg]; simp [Lib.decDigits], hb⟩
  ·refine (wtext_pos k (by omega) (by omega) w).mono ?_
   rintro e w' ⟨rfl, hb⟩
   exact ⟨by rw [Lib.itoa_nonneg], hb⟩
theorem text_wide2 (n hi lo : Int) (w : World) (h0 : -9223372036854775807 ≤ n) (h1 : n ≤ 9223372036854775807) (HV : ∀ w, Calls Tryz.prog 86 #[.agg #[.int .i64 hi, .int .u64 lo]] w fun e w' => e = .returned (.string (sOf (Lib.itoa n))) ∧ Below w.heap.size w w') :
  Calls Tryz.prog 52 #[.iface 190 (.agg #[.int .i64 hi, .int .u64 lo])] w fun e w' => e = .returned (.string (sOf ([119, 105, 100, 101, 32] ++ Lib.itoa n))) ∧ Below w.heap.size w w' := by
 have hb0 : Below w.heap.size w ((w.alloc (.cells #[.pointer none, .slice none 0 0] 177)).alloc (.cells #[.int .i64 hi, .int .u64 lo] 190)) := ((Below.refl _ _).alloc (Nat.le_refl _) _).alloc (by simp) _
 have HC := Lib.hid (HV ((w.alloc (.cells #[.pointer none, .slice none 0 0] 177)).alloc (.cells #[.int .i64 hi, .int .u64 lo] 190)))
 have HB := Lib.hid hb0
 have hs := sOf_append [119, 105, 100, 101, 32] (Lib.itoa n)
 have hk := cat_ok 5 n (by omega) (by omega) (by omega)
 have ta178 := as110_190_178
 have ta180 := as110_190_180
 have ta182 := as110_190_182
 have ta185 := as110_190_185
 have ta190 := as110_190
 clear hb0 HV
 go_enter Tryz.func52, Tryz.ntmps52
 go_wp2_with fail
 refine HC.out.mono ?_
 rintro e w1 ⟨rfl, hb⟩
 clear HC
 go_wp2_with fail
 go_ret
 exact ⟨congrArg (fun s : ByteArray => Ending.returned (Value.string s)) hs, HB.out.trans (hb.mono HB.out.size)⟩
theorem text_wide (n : Int) (w : World) (h0 : -9223372036854775807 ≤ n) (h1 : n ≤ 9223372036854775807) :
  Calls Tryz.prog 52 #[.iface 190 (wv n)] w fun e w' => e = .returned (.string (sOf ([119, 105, 100, 101, 32] ++ Lib.itoa n))) ∧ Below w.heap.size w w' := by
 have H := fun w => wtext_any n h0 h1 w
 unfold wv at H ⊢
 by_cases h : n < 0
 ·simp only [if_pos h] at H ⊢
  exact text_wide2 n _ _ w h0 h1 H
 ·simp only [if_neg h] at H ⊢
  exact text_wide2 n _ _ w h0 h1 H
end Go.Proofs.YtbhppbeepmllaaaGreatDoor

namespace Go.Proofs.YtbhppbeepmllaaaGreatDoor
open Go.RowKit

theorem bdAt_below {B b : Nat} {p : Value} {bs : List Value} {w w' : World} (h : Lib.BuilderAt 177 5 B b p bs w) (hb : Below w.heap.size w w') : Lib.BuilderAt 177 5 B b p bs w' := by
 have hlt := h.lt
 obtain ⟨hB, v, hbk, hown, hne⟩ := h
 exact ⟨hB, v, (hb.block _ hlt).trans hbk, own_below hown hb, hne⟩
theorem bd_below {B b : Nat} {bs : List Value} {w w' : World} (h : Lib.IsBuilder 177 5 B b bs w) (hb : Below w.heap.size w w') : Lib.IsBuilder 177 5 B b bs w' := h.imp (fun h => bdAt_below h hb) (fun h => bdAt_below h hb)
theorem bd_lt {B b : Nat} {bs : List Value} {w : World} (h : Lib.IsBuilder 177 5 B b bs w) : b < w.heap.size := h.elim (fun h => h.lt) (fun h => h.lt)
theorem bc_append (a b : List UInt8) : Lib.byteCells a ++ Lib.byteCells b = Lib.byteCells (a ++ b) := by simp [Lib.byteCells]
theorem bc_str (s : ByteArray) : Lib.strCells s = Lib.byteCells s.data.toList := rfl
def hexD (d : Nat) : UInt8 := UInt8.ofNat (if d < 10 then 48 + d else 87 + d)
def hexL (bs : List UInt8) : List UInt8 := bs.flatMap fun b => [hexD (b.toNat / 16), hexD (b.toNat % 16)]
theorem hexL_snoc (a : List UInt8) (b : UInt8) : hexL (a ++ [b]) = hexL a ++ [hexD (b.toNat / 16), hexD (b.toNat % 16)] := by simp [hexL]
theorem hexL_len (a : List UInt8) : (hexL a).length = a.length * 2 := by
 induction a with
 | nil => rfl
 | cons b a ih => simp only [hexL, List.flatMap_cons, List.length_append, List.length_cons, List.length_nil] at ih ⊢; omega
theorem dig_at (d : Nat) (h : d < 16) : (((⟨#[48, 49, 50, 51, 52, 53, 54, 55, 56, 57, 97, 98, 99, 100, 101, 102]⟩ : ByteArray)[d]'(by simpa [ByteArray.size] using h)).toNat : Int) = ((hexD d).toNat : Int) := by
 have : ∀ i : Fin 16, (((⟨#[48, 49, 50, 51, 52, 53, 54, 55, 56, 57, 97, 98, 99, 100, 101, 102]⟩ : ByteArray)[i.1]'(by simp [ByteArray.size])).toNat : Int) = ((hexD i.1).toNat : Int) := by decide
 exact this ⟨d, h⟩
theorem text_bytes (bs : List UInt8) (g cap : Nat) (w : World) (hl : bs.length ≤ 100000000) (hg : g < w.heap.size) (hc : ∀ j b, bs[j]? = some b → w.cell? ⟨g, j, none⟩ = some (.int .u8 b.toNat)) :
  Calls Tryz.prog 52 #[.iface 201 (.agg #[.slice (some ⟨g, 0, none⟩) bs.length cap])] w fun e w' => e = .returned (.string (sOf ([98, 121, 116, 101, 115, 32] ++ hexL bs))) ∧ Below w.heap.size w w' := by
 have hb0 : Below w.heap.size w ((w.alloc (.cells #[.pointer none, .slice none 0 0] 177)).alloc (.cells #[.slice (some ⟨g, 0, none⟩) bs.length cap] 201)) := ((Below.refl _ _).alloc (Nat.le_refl _) _).alloc (by simp) _
 have hB0 : Lib.IsBuilder 177 5 w.heap.size w.heap.size [] ((w.alloc (.cells #[.pointer none, .slice none 0 0] 177)).alloc (.cells #[.slice (some ⟨g, 0, none⟩) bs.length cap] 201)) := bd_below (Lib.fresh_isBuilder 177 5 w) ((Below.refl _ _).alloc (Nat.le_refl _) _)
 have HS := Lib.hid (bd_string w.heap.size w.heap.size [] ⟨#[98, 121, 116, 101, 115, 32]⟩ _ hB0 (by decide) (by simp; omega))
 have HB := Lib.hid hb0
 have HG := Lib.hid hc
 clear hb0 hB0 hc
 have ta178 := as110_201_178
 have ta180 := as110_201_180
 have ta182 := as110_201_182
 have ta185 := as110_201_185
 have ta190 := as110_201_190
 have ta194 := as110_201_194
 have ta201 := as110_201
 go_enter Tryz.func52, Tryz.ntmps52
 go_wp2_with fail
 refine HS.out.mono ?_
 rintro e w1 ⟨rfl, hB1, hb1, hK1⟩
 have q0 : w1.cell? ⟨w.heap.size + 1, 0, none⟩ = some (.slice (some ⟨g, 0, none⟩) bs.length cap) := cell_of_heap (hK1 (w.heap.size + 1) _ _ _ (heap_alloc_at _ (by simp)) (by decide) (by omega)) 0 _ rfl
 have b1 := HB.out.trans (hb1.mono (Nat.le_refl _))
 have HX := Lib.hid (And.intro hB1 b1)
 clear HS hB1 hb1 hK1 b1 HB
 go_wp2_with fail
 go_loopw [83] (fun i wr => ∃ k : Nat, k ≤ bs.length ∧ i = .int .i64 k ∧ Lib.BuilderAt 177 5 w.heap.size w.heap.size (.pointer (some ⟨w.heap.size, 0, none⟩)) (Lib.byteCells ([98, 121, 116, 101, 115, 32] ++ hexL (bs.take k))) wr ∧ Below w.heap.size w wr) (fun i _ => bs.length - (intOf i).toNat)
 case atStart => exact ⟨0, Nat.zero_le _, rfl, HX.out.1, HX.out.2⟩
 case round =>
  obtain ⟨k, hk, rfl, hB, hb⟩ := hrel
  by_cases hlt : k < bs.length
  ·have d1 : decide ((k : Int) < bs.length) = true := by simp; omega
   obtain ⟨x, hx⟩ : ∃ x, bs[k]? = some x := ⟨_, List.getElem?_eq_getElem hlt⟩
   have c0 := (hb.cell (p := ⟨g, k, none⟩) hg).trans (HG.out k x hx)
   have HH := Lib.hid (And.intro hB (And.intro hb hx))
   clear hB hb hx
   have hx256 := x.toNat_lt
   have ha : (0 : Int) ≤ (x.toNat : Int) / 16 ∧ (x.toNat : Int) / 16 < 16 := by omega
   have hlen : (Lib.byteCells ([98, 121, 116, 101, 115, 32] ++ hexL (bs.take k))).length ≤ 1000000000 := by
    rw [Lib.byteCells_length, List.length_append, hexL_len, List.length_take]; simp; omega
   go_wp2_with fail
   refine (bd_byte w.heap.size w.heap.size _ _ wr (.inr HH.out.1) (by omega) HH.out.2.1.size).mono ?_
   rintro e w2 ⟨rfl, hB2, hb2, hK2⟩
   have hb2' := HH.out.2.1.trans hb2
   rw [dig_at (x.toNat / 16) (by omega)] at hB2
   have H2 := Lib.hid (And.intro hB2 hb2')
   have ha2 : (0 : Int) ≤ (x.toNat : Int) % 16 ∧ (x.toNat : Int) % 16 < 16 := by omega
   clear hB2 hb2 hK2 hb2'
   go_wp2_with fail
   refine (bd_byte w.heap.size w.heap.size _ _ w2 (.inr H2.out.1) (by rw [List.length_append]; simp only [List.length_cons, List.length_nil]; omega) H2.out.2.size).mono ?_
   rintro e w3 ⟨rfl, hB3, hb3, hK3⟩
   have hb3' := H2.out.2.trans hb3
   have hfin : Lib.byteCells ([98, 121, 116, 101, 115, 32] ++ hexL (bs.take (k + 1))) = (Lib.byteCells ([98, 121, 116, 101, 115, 32] ++ hexL (bs.take k)) ++ [.int .u8 (hexD (x.toNat / 16)).toNat]) ++ [.int .u8 (hexD (x.toNat % 16)).toNat] := by
    rw [List.take_add_one, HH.out.2.2, Option.toList_some, hexL_snoc]
    simp [Lib.byteCells]
   rw [dig_at (x.toNat % 16) (by omega), ← hfin] at hB3
   have H3 := Lib.hid (And.intro hB3 hb3')
   clear hB3 hb3 hK3 hb3' hfin H2
   go_wp2_with fail
   go_roundw
   case rel => exact ⟨k + 1, by omega, by go_num, H3.out.1, H3.out.2⟩
   case measure => simp [intOf]; omega
  ·obtain rfl : k = bs.length := by omega
   have d1 : decide ((bs.length : Int) < bs.length) = false := by simp
   rw [List.take_length] at hB
   have HS := Lib.hid (Tryz.Builder_String_any w.heap.size w.heap.size _ wr (.inr hB) hb.size)
   have HB := Lib.hid hb
   clear hB hb
   go_wp2_with fail
   refine HS.out.mono ?_
   rintro e w2 ⟨rfl, hb2⟩
   clear HS
   go_wp2_with fail
   go_ret
   exact ⟨rfl, HB.out.trans hb2⟩
end Go.Proofs.YtbhppbeepmllaaaGreatDoor

namespace Go.Proofs.YtbhppbeepmllaaaGreatDoor
open Go.RowKit

theorem fnds_at : ∀ (l : List Fd) (k : Nat) (f : Fd), l[k]? = some f → (fnds l)[k * 3]? = some (.int .i64 f.1.1) ∧ (fnds l)[k * 3 + 1]? = some (.int .u64 f.1.2) ∧ (fnds l)[k * 3 + 2]? = some (.int .i64 f.2)
 | [], k, f, h => by simp at h
 | q :: l, 0, f, h => by simp at h; subst h; simp [fnds]
 | q :: l, k + 1, f, h => by
  have := fnds_at l k f (by simpa using h)
  have e : fnds (q :: l) = .int .i64 q.1.1 :: .int .u64 q.1.2 :: .int .i64 q.2 :: fnds l := by simp [fnds]
  rw [e, show (k + 1) * 3 = k * 3 + 3 by omega, show k * 3 + 3 + 1 = k * 3 + 1 + 3 by omega, show k * 3 + 3 + 2 = k * 3 + 2 + 3 by omega]
  simpa using this
def itemL (f : Fd) : List UInt8 := Lib.itoa f.1.1 ++ 58 :: (Lib.itoa f.1.2 ++ 58 :: Lib.itoa f.2)
def listL (l : List Fd) : List UInt8 := l.flatMap fun f => 32 :: itemL f
theorem listL_snoc (a : List Fd) (f : Fd) : listL (a ++ [f]) = listL a ++ (32 :: itemL f) := by simp [listL]
def FdOk (f : Fd) : Prop := f.1.1 ≤ 59 ∧ f.1.2 < 9223372036854775808 ∧ -9223372036854775808 ≤ f.2 ∧ f.2 ≤ 9223372036854775807
theorem itemL_len {f : Fd} (h : FdOk f) : (itemL f).length ≤ 62 := by
 obtain ⟨h1, h2, h3, h4⟩ := h
 have a := itoa_len (f.1.1 : Int) (by omega) (by omega)
 have b := itoa_len (f.1.2 : Int) (by omega) (by omega)
 have c := itoa_len f.2 h3 h4
 unfold itemL
 simp only [List.length_append, List.length_cons]; omega
theorem listL_len : ∀ (l : List Fd), (∀ f ∈ l, FdOk f) → (listL l).length ≤ l.length * 63
 | [], _ => by simp [listL]
 | f :: l, h => by
  have a := itemL_len (h f (by simp))
  have b := listL_len l (fun x hx => h x (by simp [hx]))
  have e : listL (f :: l) = (32 :: itemL f) ++ listL l := by simp [listL]
  rw [e, List.length_append, List.length_cons, List.length_cons]; omega
theorem text_list (l : List Fd) (fo : Option Addr) (fc : Nat) (w : World) (ht : Tab w) (hl : l.length ≤ 100000) (hok : ∀ f ∈ l, FdOk f) (hO : w.ownsRow 0 200 3 (.slice fo l.length fc) l.length (fnds l)) :
  Calls Tryz.prog 52 #[.iface 194 (.agg #[.slice fo l.length fc])] w fun e w' => e = .returned (.string (sOf ([108, 105, 115, 116] ++ listL l))) ∧ Below w.heap.size w w' := by
 have hb0 : Below w.heap.size w ((w.alloc (.cells #[.pointer none, .slice none 0 0] 177)).alloc (.cells #[.slice fo l.length fc] 194)) := ((Below.refl _ _).alloc (Nat.le_refl _) _).alloc (by simp) _
 have hB0 : Lib.IsBuilder 177 5 w.heap.size w.heap.size [] ((w.alloc (.cells #[.pointer none, .slice none 0 0] 177)).alloc (.cells #[.slice fo l.length fc] 194)) := bd_below (Lib.fresh_isBuilder 177 5 w) ((Below.refl _ _).alloc (Nat.le_refl _) _)
 have HS := Lib.hid (bd_string w.heap.size w.heap.size [] ⟨#[108, 105, 115, 116]⟩ _ hB0 (by decide) (by simp; omega))
 have HB := Lib.hid hb0
 have HO := Lib.hid hO
 have HT := Lib.hid ht
 have ht4 := ht.lt
 clear hb0 hB0 hO ht
 have ta178 := as110_194_178
 have ta180 := as110_194_180
 have ta182 := as110_194_182
 have ta185 := as110_194_185
 have ta190 := as110_194_190
 have ta194 := as110_194
 go_enter Tryz.func52, Tryz.ntmps52
 go_wp2_with fail
 refine HS.out.mono ?_
 rintro e w1 ⟨rfl, hB1, hb1, hK1⟩
 have q0 : w1.cell? ⟨w.heap.size + 1, 0, none⟩ = some (.slice fo l.length fc) := cell_of_heap (hK1 (w.heap.size + 1) _ _ _ (heap_alloc_at _ (by simp)) (by decide) (by omega)) 0 _ rfl
 have b1 := HB.out.trans (hb1.mono (Nat.le_refl _))
 have HX := Lib.hid (And.intro hB1 b1)
 clear HS hB1 hb1 hK1 b1 HB
 go_wp2_with fail
 go_loopw [54] (fun i wr => ∃ k : Nat, k ≤ l.length ∧ i = .int .i64 k ∧ Lib.BuilderAt 177 5 w.heap.size w.heap.size (.pointer (some ⟨w.heap.size, 0, none⟩)) (Lib.byteCells ([108, 105, 115, 116] ++ listL (l.take k))) wr ∧ Below w.heap.size w wr) (fun i _ => l.length - (intOf i).toNat)
 case atStart => exact ⟨0, Nat.zero_le _, rfl, HX.out.1, HX.out.2⟩
 case round =>
  obtain ⟨k, hk, rfl, hB, hb⟩ := hrel
  by_cases hlt : k < l.length
  ·have d1 : decide ((k : Int) < l.length) = true := by simp; omega
   obtain ⟨f, hf⟩ : ∃ f, l[k]? = some f := ⟨_, List.getElem?_eq_getElem hlt⟩
   obtain ⟨g, rfl⟩ := own_some HO.out (by omega)
   have hg := (HO.out.lt g rfl).2
   obtain ⟨a0, a1, a2⟩ := fnds_at l k f hf
   have c0 := (hb.cell (p := ⟨g, k * 3, none⟩) hg).trans ((HO.out.cellAt (k * 3) (by omega)).trans a0)
   have c1 := (hb.cell (p := ⟨g, k * 3 + 1, none⟩) hg).trans ((HO.out.cellAt (k * 3 + 1) (by omega)).trans a1)
   have c2 := (hb.cell (p := ⟨g, k * 3 + 2, none⟩) hg).trans ((HO.out.cellAt (k * 3 + 2) (by omega)).trans a2)
   obtain ⟨⟨L, I⟩, N⟩ := f
   obtain ⟨o1, o2, o3, o4⟩ := hok _ (List.mem_of_getElem? hf)
   dsimp only at a0 a1 a2 c0 c1 c2 o1 o2 o3 o4
   have HH := Lib.hid (And.intro hB (And.intro hb hf))
   have hbs := hb.size
   clear hB hb hf a0 a1 a2
   go_wp2_with fail
   obtain ⟨W, hW⟩ : ∃ W, wr.alloc (.cells #[.int .i64 L, .int .u64 I, .int .i64 N] 200) = W := ⟨_, rfl⟩
   have kW : Below wr.heap.size wr W := by rw [← hW]; exact (Below.refl _ _).alloc (Nat.le_refl _) _
   have xW : W.heap[wr.heap.size]? = some (.cells #[.int .i64 L, .int .u64 I, .int .i64 N] 200 (0, 0)) := by rw [← hW]; exact heap_alloc_at _ rfl
   rw [hW]
   have hlW := lt_of_block xW
   have p0 := cell_of_heap xW 0 _ rfl
   have p1 := cell_of_heap xW 1 _ rfl
   have p2 := cell_of_heap xW 2 _ rfl
   have BW := bdAt_below HH.out.1 kW
   have bW := HH.out.2.1.trans (kW.mono hbs)
   have tW := HT.out.below bW ht4
   have HW := Lib.hid (And.intro BW (And.intro bW tW))
   have i1 : ¬ 9223372036854775807 < 1 + (sOf (Lib.itoa (L : Int))).size := cat_ok 1 _ (by omega) (by omega) (by omega)
   have sL := itoa_len (L : Int) (by omega) (by omega)
   have sI := itoa_len (I : Int) (by omega) (by omega)
   have sN := itoa_len N o3 o4
   have i2 : ¬ 9223372036854775807 < 1 + (sOf (Lib.itoa (L : Int))).size + 1 := by rw [sOf_size]; omega
   have i3 : ¬ 9223372036854775807 < 1 + (sOf (Lib.itoa (L : Int))).size + 1 + (sOf (Lib.itoa (I : Int))).size := by rw [sOf_size, sOf_size]; omega
   have i4 : ¬ 9223372036854775807 < 1 + (sOf (Lib.itoa (L : Int))).size + 1 + (sOf (Lib.itoa (I : Int))).size + 1 := by rw [sOf_size, sOf_size]; omega
   have i5 : ¬ 9223372036854775807 < 1 + (sOf (Lib.itoa (L : Int))).size + 1 + (sOf (Lib.itoa (I : Int))).size + 1 + (sOf (Lib.itoa N)).size := by rw [sOf_size, sOf_size, sOf_size]; omega
   clear hW kW xW BW bW tW c0 c1 c2 sL sI sN
   refine wp_region_mixA W.heap.size [0, 1, 2, 3, 4, 5, 6, 7, 8, 9, 10, 11, 12, 13, 14, 15] [16] (by kernel_rfl) (by kernel_rfl) rfl ?_
   simp only [opsAt, List.map_cons, List.map_nil, List.getElem?_toArray, List.getElem?_cons_zero, List.getElem?_cons_succ, Option.getD_some]
   have z0 := fun k : After W.heap.size W => k.cell hlW p0
   have z1 := fun k : After W.heap.size W => k.cell hlW p1
   have z2 := fun k : After W.heap.size W => k.cell hlW p2
   have zt := Lib.hid fun k : After W.heap.size W => HW.out.2.2.below k.h HW.out.2.2.lt
   repeat (go_big_quiet_step (first | (go_at_call 50; exact after_of (Nat.le_refl _) _ (itoa_call (L : Int) (by omega) (by omega) _ (zt.out _))) | (go_at_call 85; exact after_of (Nat.le_refl _) _ (fmtu_call I (by omega) _ (zt.out _))) | (go_at_call 84; exact after_of (Nat.le_refl _) _ (fmti_call N o3 o4 _ (zt.out _)))))
   refine wpQuiet_nil ?_
   intro kk
   unfold calmQ
   have kb := kk.h
   clear z0 z1 z2 zt
   obtain ⟨W2, hW2⟩ : ∃ W2, kk.w = W2 := ⟨_, rfl⟩
   rw [hW2] at kb
   rw [hW2]
   clear hW2
   have B2 := bdAt_below HW.out.1 kb
   have b2 := HW.out.2.1.trans (kb.mono HW.out.2.1.size)
   have H2 := Lib.hid (And.intro B2 b2)
   have hlen : (Lib.byteCells ([108, 105, 115, 116] ++ listL (l.take k))).length ≤ 1000000000 := by
    rw [Lib.byteCells_length, List.length_append]
    have h1 := listL_len (l.take k) (fun f hf => hok f (List.mem_of_mem_take hf))
    rw [List.length_take] at h1
    simp only [List.length_cons, List.length_nil]; omega
   have hss : ∀ s : ByteArray, s.data.toList = 32 :: itemL ((L, I), N) → s.size ≤ 1000 := fun s hs => by
    have h1 := itemL_len (f := ((L, I), N)) ⟨o1, o2, o3, o4⟩
    have h2 : s.data.toList.length = s.size := by simp
    rw [hs] at h2; simp only [List.length_cons] at h2; omega
   clear B2 b2 kb
   go_wp2_with fail
   have hsd : ∀ s : ByteArray, s.data.toList = 32 :: itemL ((L, I), N) → Calls Tryz.prog 87 #[.pointer (some ⟨w.heap.size, 0, none⟩), .string s] W2 fun e w' => e = .returned (.tuple #[.int .i64 s.size, .nilIface]) ∧ Lib.BuilderAt 177 5 w.heap.size w.heap.size (.pointer (some ⟨w.heap.size, 0, none⟩)) (Lib.byteCells ([108, 105, 115, 116] ++ listL (l.take (k + 1)))) w' ∧ Below w.heap.size w w' := fun s hs => by
    have hz := hss s hs
    refine (bd_string w.heap.size w.heap.size _ s W2 (.inr H2.out.1) (by omega) H2.out.2.size).mono ?_
    rintro e w3 ⟨rfl, h3, h4, _⟩
    refine ⟨rfl, ?_, H2.out.2.trans h4⟩
    have hf : Lib.byteCells ([108, 105, 115, 116] ++ listL (l.take (k + 1))) = Lib.byteCells ([108, 105, 115, 116] ++ listL (l.take k)) ++ Lib.strCells s := by
     rw [List.take_add_one, HH.out.2.2, Option.toList_some, listL_snoc, bc_str, hs, ← List.append_assoc, bc_append]
    rw [hf]; exact h3
   refine (hsd _ (by simp [itemL, sOf])).mono ?_
   rintro e w3 ⟨rfl, h3, h4⟩
   have H3 := Lib.hid (And.intro h3 h4)
   clear h3 h4 hsd H2 HW
   go_wp2_with fail
   go_roundw
   case rel => exact ⟨k + 1, by omega, by go_num, H3.out.1, H3.out.2⟩
   case measure => simp [intOf]; omega
  ·obtain rfl : k = l.length := by omega
   have d1 : decide ((l.length : Int) < l.length) = false := by simp
   rw [List.take_length] at hB
   have HS := Lib.hid (Tryz.Builder_String_any w.heap.size w.heap.size _ wr (.inr hB) hb.size)
   have HB := Lib.hid hb
   clear hB hb
   go_wp2_with fail
   refine HS.out.mono ?_
   rintro e w2 ⟨rfl, hb2⟩
   clear HS
   go_wp2_with fail
   go_ret
   exact ⟨rfl, HB.out.trans hb2⟩
end Go.Proofs.YtbhppbeepmllaaaGreatDoor

namespace Go.Proofs.YtbhppbeepmllaaaGreatDoor
open Go.RowKit

theorem agLine_ok (ag : Nat) (s t : ByteArray) (ty rt : TypeId) (Q : Value → World → Prop) (Q2 : Value → World → Prop) (Q3 : World → Prop) (w : World)
  (HP : Calls Tryz.prog 48 #[.string s] w fun e w' => ∃ V, e = .returned (.tuple #[.iface ty V, .int .i64 0, .int .i64 0]) ∧ Q V w')
  (HD : ∀ V w1, Q V w1 → Calls Tryz.prog 51 #[.pointer (some ⟨ag, 0, none⟩), .iface ty V] w1 fun e w' => ∃ R, e = .returned (.tuple #[.iface rt R, .int .i64 0]) ∧ Q2 R w')
  (HT : ∀ R w2, Q2 R w2 → Calls Tryz.prog 52 #[.iface rt R] w2 fun e w' => e = .returned (.string t) ∧ Q3 w') :
  Calls Tryz.prog 13 #[.pointer (some ⟨ag, 0, none⟩), .string s] w fun e w' => e = .returned (.tuple #[.string t, .bool true]) ∧ Q3 w' := by
 have HP' := Lib.hid HP; have HD' := Lib.hid HD; have HT' := Lib.hid HT
 clear HP HD HT
 go_enter Tryz.func13, Tryz.ntmps13
 go_wp2_with fail
 refine HP'.out.mono ?_
 rintro e w1 ⟨V, rfl, hQ⟩
 have HX := Lib.hid (HD'.out V w1 hQ)
 clear HP' HD' hQ
 go_wp2_with fail
 refine HX.out.mono ?_
 rintro e w2 ⟨R, rfl, hQ⟩
 have HY := Lib.hid (HT'.out R w2 hQ)
 clear HX HT' hQ
 go_wp2_with fail
 refine HY.out.mono ?_
 rintro e w3 ⟨rfl, hQ⟩
 have HQ := Lib.hid hQ
 clear HY hQ
 go_wp2_with fail
 go_ret2
 exact ⟨rfl, HQ.out⟩
theorem agLine_err (ag : Nat) (s t : ByteArray) (ty : TypeId) (ec : Int) (h0 : ec ≠ 0) (Q : Value → World → Prop) (Q2 : World → Prop) (Q3 : World → Prop) (w : World)
  (HP : Calls Tryz.prog 48 #[.string s] w fun e w' => ∃ V, e = .returned (.tuple #[.iface ty V, .int .i64 0, .int .i64 0]) ∧ Q V w')
  (HD : ∀ V w1, Q V w1 → Calls Tryz.prog 51 #[.pointer (some ⟨ag, 0, none⟩), .iface ty V] w1 fun e w' => e = .returned (.tuple #[.nilIface, .int .i64 ec]) ∧ Q2 w')
  (HT : ∀ w2, Q2 w2 → Calls Tryz.prog 49 #[.int .i64 ec] w2 fun e w' => e = .returned (.string t) ∧ Q3 w') :
  Calls Tryz.prog 13 #[.pointer (some ⟨ag, 0, none⟩), .string s] w fun e w' => e = .returned (.tuple #[.string t, .bool true]) ∧ Q3 w' := by
 have HP' := Lib.hid HP; have HD' := Lib.hid HD; have HT' := Lib.hid HT
 have d0 : (ec != 0) = true := by simp; exact h0
 clear HP HD HT
 go_enter Tryz.func13, Tryz.ntmps13
 go_wp2_with fail
 refine HP'.out.mono ?_
 rintro e w1 ⟨V, rfl, hQ⟩
 have HX := Lib.hid (HD'.out V w1 hQ)
 clear HP' HD' hQ
 go_wp2_with fail
 refine HX.out.mono ?_
 rintro e w2 ⟨rfl, hQ⟩
 have HY := Lib.hid (HT'.out w2 hQ)
 clear HX HT' hQ
 go_wp2_with fail
 refine HY.out.mono ?_
 rintro e w3 ⟨rfl, hQ⟩
 have HQ := Lib.hid hQ
 clear HY hQ
 go_wp2_with fail
 go_ret2
 exact ⟨rfl, HQ.out⟩
end Go.Proofs.YtbhppbeepmllaaaGreatDoor
