import Derived.Test.YtbhppbeepmllaaaGreatDoorMcdf4a2b9
import Derived.Deep.WholeRow
import Derived.Laws.CopyRow
set_option linter.unusedVariables false
set_option linter.unusedSimpArgs false
set_option maxRecDepth 100000
set_option maxHeartbeats 2000000
namespace Go.Proofs.YtbhppbeepmllaaaGreatDoor
open Go.RowKit

theorem Tryz.info253 : (Tryz.prog.info? 253).map (fun i => (i.zero, i.size)) = some (some (.agg (Array.replicate 256 (.int .u32 0))), 256) := by kernel_rfl
def stI (r : Int) : Int := bits BinOp.xor IntKind.u32 (r / 2) (IntKind.u32.wrap (3988292384 * bits BinOp.and IntKind.u32 r 1))
def itI : Nat → Int → Int
 | 0, r => r
 | k + 1, r => stI (itI k r)
def tabL (k : Nat) : List Int := (List.range k).map (fun n : Nat => itI 8 (n : Int)) ++ List.replicate (256 - k) 0
def tabA (k : Nat) : Array Value := ((tabL k).map fun z => Value.int .u32 z).toArray
theorem tabA_zero : tabA 0 = Array.replicate 256 (.int .u32 0) := by
 show ((List.replicate 256 (0 : Int)).map fun z => Value.int .u32 z).toArray = _
 rw [List.map_replicate, List.toArray_replicate]
theorem tabA_at (k : Nat) (h : k < 256) : (tabA k)[k]? = some (.int .u32 0) := by
 unfold tabA tabL
 rw [List.getElem?_toArray, List.getElem?_map, List.getElem?_append_right (by simp)]
 simp only [List.length_map, List.length_range, Nat.sub_self, List.getElem?_replicate]
 rw [if_pos (by omega)]
 rfl
theorem tabA_size (k : Nat) (h : k ≤ 256) : (tabA k).size = 256 := by simp [tabA, tabL]; omega
theorem tabA_set (k : Nat) (h : k < 256) : (tabA k).setIfInBounds k (.int .u32 (itI 8 (k : Int))) = tabA (k + 1) := by
 apply Array.ext'
 simp only [tabA, Array.toList_setIfInBounds, tabL]
 apply List.ext_getElem?
 intro j
 simp only [List.map_append, List.map_map, List.map_replicate, List.range_succ, List.getElem?_set, List.append_assoc]
 by_cases hj : k = j
 ·subst hj
  rw [if_pos rfl, if_pos (by simp; omega), List.getElem?_append_right (by simp)]
  simp
 ·rw [if_neg hj]
  by_cases hlt : j < k
  ·rw [List.getElem?_append_left (by simp; omega), List.getElem?_append_left (by simp; omega)]
  ·rw [List.getElem?_append_right (by simp; omega), List.getElem?_append_right (by simp; omega), List.getElem?_append_right (by simp; omega)]
   simp only [List.length_map, List.length_range, List.length_cons, List.length_nil, List.getElem?_replicate]
   by_cases h2 : j < 256
   ·rw [if_pos (by omega), if_pos (by omega)]
   ·rw [if_neg (by omega), if_neg (by omega)]
theorem ctab_any (w : World) : Calls Tryz.prog 132 #[] w fun e w' => e = .returned (.agg (tabA 256)) ∧ Below w.heap.size w w' := by
 obtain ⟨hzv, hsz⟩ := zero_of_info Tryz.info253
 rw [← tabA_zero] at hzv
 have ka : Below w.heap.size w (w.alloc (.cells (tabA 0) 253)) := (Below.refl _ _).alloc (Nat.le_refl _) _
 have xa : (w.alloc (.cells (tabA 0) 253)).heap[w.heap.size]? = some (Obj.cells (tabA 0) 253 (0, 0)) := heap_alloc_at _ rfl
 have HA := Lib.hid (And.intro ka xa)
 have HSZ := Lib.hid hsz
 clear ka xa hsz
 go_enter Tryz.func132, Tryz.ntmps132
 go_wp2_with fail
 go_loopw [3] (fun i wr => ∃ k : Nat, k ≤ 256 ∧ i = .int .i64 (k : Int) ∧ wr.heap[w.heap.size]? = some (Obj.cells (tabA k) 253 (0, 0)) ∧ Below w.heap.size w wr) (fun i _ => 256 - (intOf i).toNat)
 case atStart => exact ⟨0, by omega, rfl, HA.out.2, HA.out.1⟩
 case round =>
  obtain ⟨k, hk, rfl, hx, hB⟩ := hrel
  by_cases hlt : k < 256
  ·have c0 : decide ((k : Int) < 256) = true := by simp; omega
   have c1 : decide (k < 256) = true := by simp; omega
   have ck : wr.cell? ⟨w.heap.size, k, none⟩ = some (.int .u32 0) := by simp [World.cell?, hx, tabA_at k hlt]
   have fz : wr.frozen? ⟨w.heap.size, k, none⟩ = false := by simp [World.frozen?, hx]
   have HR := Lib.hid (And.intro hx hB)
   clear hx hB
   go_wp2_with fail
   go_loop [2, 8] (fun r j => ∃ i : Nat, i ≤ 8 ∧ r = .int .u32 (itI i (k : Int)) ∧ j = .int .i64 (i : Int)) (fun _ j => 8 - (intOf j).toNat)
   case atStart => exact ⟨0, by omega, rfl, rfl⟩
   case round =>
    obtain ⟨i, hi, rfl, rfl⟩ := hrel
    by_cases hi8 : i < 8
    ·have c2 : decide ((i : Int) < 8) = true := by simp; omega
     have c3 : decide (i < 8) = true := by simp; omega
     have hst : itI (i + 1) (k : Int) = stI (itI i (k : Int)) := rfl
     obtain ⟨r, hr⟩ : ∃ r, itI i (k : Int) = r := ⟨_, rfl⟩
     rw [hr] at hst ⊢
     have HST := Lib.hid hst
     clear hst hr
     go_wp2_with fail
     exact ⟨⟨i + 1, by omega, by rw [HST.out]; rfl, by simp⟩, by simp only [intOf]; omega⟩
    ·obtain rfl : i = 8 := by omega
     have c2 : decide (((8 : Nat) : Int) < 8) = false := by decide
     go_wp2_with fail
     have hs := heap_setCell_same _ _ k _ _ (.int .u32 (itI 8 (k : Int))) HR.out.1
     rw [tabA_set k hlt] at hs
     exact ⟨⟨k + 1, by omega, by simp, hs, HR.out.2.setCell (Nat.le_refl _) _⟩, by simp only [intOf]; omega⟩
  ·obtain rfl : k = 256 := by omega
   have c0 : decide (((256 : Nat) : Int) < 256) = false := by decide
   have HX := Lib.hid hx
   have HB := Lib.hid hB
   have HI := Lib.hid (show (Tryz.prog.info? 253).map (·.size) = some (tabA 256).size by rw [tabA_size 256 (Nat.le_refl _)]; exact HSZ.out)
   have H1 := Lib.hid (show (tabA 256).all (·.oneCell') = true by
    rw [Array.all_eq_true_iff_forall_mem]
    intro v hv
    simp only [tabA, List.mem_toArray, List.mem_map] at hv
    obtain ⟨z, _, rfl⟩ := hv
    rfl)
   have HSelf := Lib.hid (setRow_self wr w.heap.size (tabA 256) 253 (0, 0) hx)
   obtain ⟨tb, htb⟩ : ∃ tb, tabA 256 = tb := ⟨_, rfl⟩
   rw [htb] at HX HI H1 HSelf
   have HTB := Lib.hid htb
   clear hx hB htb
   go_wp2_with (first | (refine wpList_load_row rfl 253 _ rfl w.heap.size rfl 253 tb (0, 0) _ HX.out Tryz.underlying253 rfl HI.out ?_) | (refine wpList_store_row rfl 253 _ _ rfl w.heap.size tb rfl rfl 253 tb HX.out HI.out rfl H1.out ?_; rw [HSelf.out]))
   refine bodyPost_ret (results_cell_row rfl _ _ w.heap.size 253 tb (0, 0) _ rfl HX.out Tryz.underlying253 rfl HI.out) rfl ⟨by rw [HTB.out], HB.out⟩
end Go.Proofs.YtbhppbeepmllaaaGreatDoor
