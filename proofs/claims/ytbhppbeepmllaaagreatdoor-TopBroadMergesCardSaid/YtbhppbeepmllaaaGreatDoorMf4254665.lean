import Derived.Test.YtbhppbeepmllaaaGreatDoorMe8124dcd
import Derived.Test.YtbhppbeepmllaaaGreatDoorMf389b4ca
import Derived.Lib.AppendIntMem
set_option linter.unusedVariables false
set_option linter.unusedSimpArgs false
set_option maxRecDepth 100000
set_option maxHeartbeats 2000000
namespace Go.Proofs.YtbhppbeepmllaaaGreatDoor
open Go.RowKit

open Go.Sort Go.Lib
theorem und267 : Tryz.prog.underlying 267 = some (.array 24 5) := by kernel_rfl
theorem fmtu_any (u : Nat) (hu : u < 18446744073709551616) (w : World) (ht : Tab w) :
  Calls Tryz.prog 85 #[.int .u64 u, .int .i64 10] w fun e w' => e = .returned (.string ⟨(Lib.decDigits u).toArray⟩) ∧ Below w.heap.size w w' := by
 have H : Hid (Calls Tryz.prog 127 #[.int .u64 u, .int .i64 10] w fun e w' => e = .returned (.string ⟨(Lib.decDigits u).toArray⟩) ∧ Below w.heap.size w w') := by
  apply Lib.hid
  by_cases hs : u < 100
  ·have d0 : decide ((u : Int) < 100) = true := by simp; omega
   have w0 : IntKind.i64.wrap (u : Int) = u := by rw [IntKind.wrap_i64]; omega
   have HS := Lib.hid (Tryz.internal_strconv_small u hs w)
   go_enter Tryz.func127, Tryz.ntmps127
   go_wp2_with (go_at_call 148; refine HS.out.mono ?_; rintro e w' ⟨rfl, rfl⟩)
   go_ret
   exact ⟨rfl, Below.refl _ _⟩
  ·have d0 : decide ((u : Int) < 100) = false := by simp; omega
   have hu1 : 1 ≤ u := by omega
   have hnd20 : Lib.nDigits u ≤ 20 := by have := Lib.numDigits_eq u hu1 hu; split at this <;> omega
   have hal : Tryz.prog.arrayLen 267 = 24 := by simp [Program.arrayLen, und267]
   have hsl1 : ∀ W, (Instr.sliceAt 267 (.pointer (some ⟨w.heap.size, 0, none⟩)) none (some (.int .i64 (Lib.nDigits u : Int))) none).run Tryz.prog W = .ok (.slice (some ⟨w.heap.size, 0, none⟩) (Lib.nDigits u) 24) W := fun W => by
    rw [run_sliceAt_array_h W 267 ⟨w.heap.size, 0, none⟩ (by simp [Program.arrayLen, Program.elem, und267]) .i64 (Lib.nDigits u : Int) (by omega) (by rw [hal]; omega)]
    go_simp
   have hH0 := Lib.holds_zero0 w 267 (Lib.nDigits u) (by omega)
   have hfmt := Tryz.internal_strconv_formatBase10 w.heap.size 0 24 u (Array.replicate (Lib.nDigits u) 0) (w.alloc (.cells Lib.zeros24 267)) hH0 (by rw [Array.size_replicate]; exact Lib.lt_pow_nDigits u) hu (by rw [Array.size_replicate]; omega)
   rw [Array.size_replicate] at hfmt
   have HH0 := Lib.hid hH0
   have HF := Lib.hid hfmt
   have HD := Lib.hid (Tryz.internal_strconv_numDigits u hu1 hu _ (Lib.tabIs_alloc ht (.cells Lib.zeros24 267)))
   clear hH0 hal hfmt
   go_enter Tryz.func127, Tryz.ntmps127
   go_wp2_with (go_at_call 149; refine HD.out.mono ?_; rintro e w' ⟨rfl, rfl⟩)
   refine HF.out.mono ?_
   rintro e w' ⟨rfl, k, v', dk, rfl, hF⟩
   have hcv : (convert 45 9 (.slice (some ⟨w.heap.size, 0, none⟩) (Lib.nDigits u) 24)).run Tryz.prog ((putRow (fun (b : UInt8) => Value.int .u8 (b.toNat : Int)) (w.alloc (.cells Lib.zeros24 267)) w.heap.size 0 dk).drewN k) = .ok (.string ⟨(Lib.decDigits u).toArray⟩) ((putRow (fun (b : UInt8) => Value.int .u8 (b.toNat : Int)) (w.alloc (.cells Lib.zeros24 267)) w.heap.size 0 dk).drewN k) := by
    have h := run_convert_bytes_back (P := Tryz.prog) ((putRow (fun (b : UInt8) => Value.int .u8 (b.toNat : Int)) (w.alloc (.cells Lib.zeros24 267)) w.heap.size 0 dk).drewN k) 45 9 5 ⟨w.heap.size, 0, none⟩ 24 (Lib.decDigits u) Tryz.underlying45 Tryz.underlying5 Tryz.underlying9 (fun j hj => by
     rw [Lib.row_is_numeral hF j hj, Lib.add_plain, World.cell?_drewN]
     exact cell?_putRow (fun (b : UInt8) => Value.int .u8 (b.toNat : Int)) _ w.heap.size 0 _ dk HH0.out (by rw [hF.size, Array.size_replicate]) j (by rw [hF.size]; rw [Lib.decDigits_length] at hj; exact hj))
    rw [Lib.decDigits_length] at h
    exact h
   have HB := Lib.hid (show Below w.heap.size w ((putRow (fun (b : UInt8) => Value.int .u8 (b.toNat : Int)) (w.alloc (.cells Lib.zeros24 267)) w.heap.size 0 dk).drewN k) by obtain ⟨os, eo⟩ := Lib.fin_at w (.cells Lib.zeros24 267) dk k 0; rw [eo]; exact below_grow w k os)
   go_wp2_with fail
   go_ret
   exact ⟨rfl, HB.out⟩
 go_enter Tryz.func85, Tryz.ntmps85
 go_wp2_with fail
 refine H.out.mono ?_
 rintro e w' ⟨rfl, hb⟩
 go_wp2_with fail
 go_ret
 exact ⟨rfl, hb⟩
end Go.Proofs.YtbhppbeepmllaaaGreatDoor
