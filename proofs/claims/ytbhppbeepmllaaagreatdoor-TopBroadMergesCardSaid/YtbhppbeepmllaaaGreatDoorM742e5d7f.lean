import Derived.Test.YtbhppbeepmllaaaGreatDoorM43012992
import Derived.OpenShut
import Derived.Laws.CopyRow
set_option linter.unusedVariables false
set_option linter.unusedSimpArgs false
set_option maxRecDepth 100000
set_option maxHeartbeats 2000000
namespace Go.Proofs.YtbhppbeepmllaaaGreatDoor
open Go.RowKit

def idxI (r : Int) (b : Nat) : Int := bits BinOp.xor IntKind.u8 (IntKind.u8.wrap r) (b : Int)
theorem idx_bd (r : Int) (b : Nat) : 0 ≤ idxI r b ∧ idxI r b ≤ 255 := bounds_u8 (wf_bits _ _ _ _)
def crcS (r : Int) (b : Nat) : Int := bits BinOp.xor IntKind.u32 (r / 256) (itI 8 (idxI r b))
theorem tabA_256 (k : Nat) (h : k < 256) : (tabA 256)[k]? = some (.int .u32 (itI 8 (k : Int))) := by
 unfold tabA tabL
 rw [List.getElem?_toArray, List.getElem?_map, List.getElem?_append_left (by simp; exact h), List.getElem?_map, List.getElem?_range h]
 rfl
theorem ext1_any (b : Nat) (hb : b < 256) (r : Int) (h0 : 0 ≤ r) (h1 : r < 4294967296) (w : World) (t1 t2 : Nat) (hx : w.heap[t1]? = some (.cells #[.int .u32 r] 115 (0, 0))) (h2 : w.heap[t2]? = some (.cells (tabA 256) 253 (0, 0))) :
  Calls Tryz.prog 133 #[.int .u8 (b : Int), .pointer (some ⟨t1, 0, none⟩), .pointer (some ⟨t2, 0, none⟩)] w fun e w' => e = .returned (.tuple #[]) ∧ w'.heap[t1]? = some (.cells #[.int .u32 (crcS r b)] 115 (0, 0)) ∧ w.grownBy w' (some t1) := by
 have hi := idx_bd r b
 obtain ⟨k, hk⟩ : ∃ k : Nat, idxI r b = k := ⟨(idxI r b).toNat, by omega⟩
 have hk2 : k < 256 := by omega
 have hc2 : w.cell? ⟨t2, k, none⟩ = some (.int .u32 (itI 8 (k : Int))) := by simp [World.cell?, h2, tabA_256 k hk2]
 have hc1 := cell_of_heap hx 0 _ rfl
 have l1 := lt_of_block hx
 have l2 := lt_of_block h2
 have hcs : crcS r b = bits BinOp.xor IntKind.u32 (r / 256) (itI 8 (k : Int)) := by unfold crcS; rw [hk]
 have hid : bits BinOp.xor IntKind.u8 (IntKind.u8.wrap r) (b : Int) = (k : Int) := hk
 have hid2 : bits BinOp.xor IntKind.u8 (r % 256) (b : Int) = (k : Int) := by rw [← IntKind.wrap_u8]; exact hk
 obtain ⟨tv, htv⟩ : ∃ tv, itI 8 (k : Int) = tv := ⟨_, rfl⟩
 rw [htv] at hc2 hcs
 have HC := Lib.hid hcs
 have HX := Lib.hid hx
 clear hx h2 hk htv hcs hi
 go_enter Tryz.func133, Tryz.ntmps133
 go_wp2_with fail
 refine wp_region_mixA w.heap.size [0, 1, 2, 3, 4, 5, 6, 7, 8] [9] (by kernel_rfl) (by kernel_rfl) rfl ?_
 simp only [opsAt, List.map_cons, List.map_nil, List.getElem?_toArray, List.getElem?_cons_zero, List.getElem?_cons_succ, Option.getD_some]
 have z1 := fun kk : After w.heap.size w => kk.cell l1 hc1
 have z2 := fun kk : After w.heap.size w => kk.cell l2 hc2
 repeat (go_big_quiet_step (fail))
 refine wpQuiet_nil ?_
 intro kk
 unfold calmQ
 have kb := kk.h
 clear z1 z2
 obtain ⟨X, hX⟩ : ∃ X, kk.w = X := ⟨_, rfl⟩
 rw [hX] at kb
 rw [hX]
 clear hX
 have hxX := (kb.block _ l1).trans HX.out
 have y0 := cell_of_heap hxX 0 _ rfl
 have fz : X.frozen? ⟨t1, 0, none⟩ = false := by simp [World.frozen?, hxX]
 have HK := Lib.hid (And.intro kb hxX)
 clear kb hxX hc1 hc2
 go_wp2_with fail
 go_end0
 refine ⟨rfl, ?_, ⟨HK.out.1.os, HK.out.1.tape, HK.out.1.output, by simp; exact HK.out.1.size, fun j hj hn => ?_⟩⟩
 ·rw [HC.out]
  simpa using heap_setCell_same _ _ 0 _ _ (.int .u32 (bits BinOp.xor IntKind.u32 (r / 256) tv)) HK.out.2
 ·exact (heap_setCell_other _ _ _ _ (fun e => hn (by rw [e]))).trans (HK.out.1.block j hj)
def crcF (l : List Nat) : Int := l.foldl crcS 4294967295
theorem crcS_bd (r : Int) (b : Nat) : 0 ≤ crcS r b ∧ crcS r b < 4294967296 := by
 have := bounds_u32 (wf_bits BinOp.xor IntKind.u32 (r / 256) (itI 8 (idxI r b)))
 unfold crcS; omega
theorem crcF_snoc (l : List Nat) (b : Nat) : crcF (l ++ [b]) = crcS (crcF l) b := by simp [crcF]
theorem crcF_bd (l : List Nat) : 0 ≤ crcF l ∧ crcF l < 4294967296 := by
 rcases List.eq_nil_or_concat l with rfl | ⟨m, b, rfl⟩
 ·decide
 ·rw [List.concat_eq_append, crcF_snoc]; exact crcS_bd _ _
def crcE (l : List Nat) : Int := bits BinOp.xor IntKind.u32 IntKind.u32.max (crcF l)
theorem extend_any (v : Value) (l : List Nat) (hb : ∀ x ∈ l, x < 256) (B : Nat) (w : World) (hO : w.ownsRow B 5 1 v l.length (b8 l)) (hl : l.length ≤ 4000000) (h0 : 0 < l.length) :
  Calls Tryz.prog 90 #[.int .u32 0, v] w fun e w' => e = .returned (.int .u32 (crcE l)) ∧ Below w.heap.size w w' := by
 obtain ⟨hzv, hsz⟩ := zero_of_info Tryz.info253
 have HSZ := Lib.hid hsz
 obtain ⟨cb, cap, hv⟩ : ∃ cb cap, v = .slice (some ⟨cb, 0, none⟩) l.length cap := by
  rcases hO.2 with ⟨h1, h2⟩ | ⟨g, cap, cur, h1, _⟩
  ·omega
  ·exact ⟨g, cap, h1⟩
 subst hv
 have hlt := (hO.lt cb rfl).2
 have hcell : ∀ k, k < l.length → w.cell? ⟨cb, k, none⟩ = some (.int .u8 (l.getD k 0 : Nat)) := fun k hk => by
  rw [hO.cellAt k (by omega)]
  simp [b8, List.getD_eq_getElem?_getD, List.getElem?_eq_getElem hk]
 have HC := Lib.hid hcell
 clear hcell hO hsz
 go_enter Tryz.func90, Tryz.ntmps90
 go_wp2_with fail
 refine (ctab_any _).mono ?_
 rintro e w1 ⟨rfl, hb1⟩
 have HB1 := Lib.hid hb1
 have HI := Lib.hid (show (Tryz.prog.info? 253).map (·.size) = some (tabA 256).size by rw [tabA_size 256 (Nat.le_refl _)]; exact HSZ.out)
 have H1 := Lib.hid (show (tabA 256).all (·.oneCell') = true by
  rw [Array.all_eq_true_iff_forall_mem]
  intro v hv
  simp only [tabA, List.mem_toArray, List.mem_map] at hv
  obtain ⟨z, _, rfl⟩ := hv
  rfl)
 have HT := Lib.hid (tabA_size 256 (Nat.le_refl _))
 obtain ⟨tb, htb⟩ : ∃ tb, tabA 256 = tb := ⟨_, rfl⟩
 rw [htb] at HI H1 HT ⊢
 have HTB := Lib.hid htb
 rw [← tabA_zero] at hzv
 have HT0 := Lib.hid (tabA_size 0 (by decide))
 obtain ⟨t0, ht0⟩ : ∃ t0, tabA 0 = t0 := ⟨_, rfl⟩
 rw [ht0] at hzv HT0
 have hinit : bits BinOp.xor IntKind.u32 IntKind.u32.max 0 = 4294967295 := by decide
 clear htb ht0 hb1
 go_wp2_with (refine wpList_store_row rfl 253 _ _ rfl w1.heap.size tb rfl rfl 253 t0 (heap_alloc_at _ rfl) HI.out (by rw [HT0.out, HT.out]) H1.out ?_; rw [World.setRow_alloc_new])
 have kA : Below w.heap.size w ((w1.alloc (.cells tb 253)).alloc (.cells #[.int .u32 4294967295] 115)) := (HB1.out.alloc HB1.out.size _).alloc (by have := HB1.out.size; simp; omega) _
 have xA : ((w1.alloc (.cells tb 253)).alloc (.cells #[.int .u32 4294967295] 115)).heap[w1.heap.size]? = some (Obj.cells tb 253 (0, 0)) := heap_alloc_under _ (heap_alloc_at _ rfl)
 have yA : ((w1.alloc (.cells tb 253)).alloc (.cells #[.int .u32 4294967295] 115)).heap[w1.heap.size + 1]? = some (Obj.cells #[.int .u32 4294967295] 115 (0, 0)) := heap_alloc_at _ (by simp)
 have HS0 := Lib.hid (And.intro xA (And.intro yA kA))
 clear kA xA yA hinit
 go_loopw [16] (fun i wr => ∃ k : Nat, k ≤ l.length ∧ i = .int .i64 (k : Int) ∧ wr.heap[w1.heap.size]? = some (Obj.cells tb 253 (0, 0)) ∧ wr.heap[w1.heap.size + 1]? = some (Obj.cells #[.int .u32 (crcF (l.take k))] 115 (0, 0)) ∧ Below w.heap.size w wr) (fun i _ => l.length - (intOf i).toNat)
 case atStart => exact ⟨0, by omega, rfl, HS0.out.1, HS0.out.2.1, HS0.out.2.2⟩
 case round =>
  obtain ⟨k, hk, rfl, hx, hy, hB⟩ := hrel
  by_cases hkl : k < l.length
  ·have c0 : decide ((k : Int) < (l.length : Int)) = true := by simp; omega
   have c1 : decide (k < l.length) = true := by simp; omega
   have hc := (hB.cell (p := ⟨cb, k, none⟩) hlt).trans (HC.out k hkl)
   have hbx : l.getD k 0 < 256 := by
    rw [List.getD_eq_getElem?_getD, List.getElem?_eq_getElem hkl]; exact hb _ (List.getElem_mem hkl)
   have htk : l.take (k + 1) = l.take k ++ [l.getD k 0] := by
    rw [List.take_succ_eq_append_getElem hkl]
    simp [List.getD_eq_getElem?_getD, List.getElem?_eq_getElem hkl]
   have hsn := crcF_snoc (l.take k) (l.getD k 0)
   rw [← htk] at hsn
   have hbd := crcF_bd (l.take k)
   obtain ⟨x, hxx⟩ : ∃ x, l.getD k 0 = x := ⟨_, rfl⟩
   rw [hxx] at hc hbx hsn
   obtain ⟨r, hr⟩ : ∃ r, crcF (l.take k) = r := ⟨_, rfl⟩
   rw [hr] at hy hsn hbd
   have HE := Lib.hid (ext1_any x hbx r hbd.1 hbd.2 wr (w1.heap.size + 1) w1.heap.size hy (by rw [HTB.out]; exact hx))
   have HR := Lib.hid (And.intro hx (And.intro hB hsn))
   have lx := lt_of_block hx
   clear hx hy hB hsn htk hxx hr
   obtain ⟨n, hnn⟩ : ∃ n, l.length = n := ⟨_, rfl⟩
   rw [hnn] at c0 c1 hkl hk hl ⊢
   clear hnn
   go_wp2_with fail
   refine HE.out.mono ?_
   rintro e w2 ⟨rfl, hy2, hg2⟩
   have hx2 := (hg2.block _ lx (by simp)).trans HR.out.1
   have hB2 := HR.out.2.1.grown hg2 HR.out.2.1.size (fun j e => by have := HB1.out.size; have e2 := Option.some.inj e; omega)
   rw [← HR.out.2.2] at hy2
   have HRel : ∃ k' : Nat, k' ≤ n ∧ Value.int IntKind.i64 ((k : Int) + 1) = .int .i64 (k' : Int) ∧ w2.heap[w1.heap.size]? = some (Obj.cells tb 253 (0, 0)) ∧ w2.heap[w1.heap.size + 1]? = some (Obj.cells #[.int .u32 (crcF (l.take k'))] 115 (0, 0)) ∧ Below w.heap.size w w2 := ⟨k + 1, by omega, by simp, hx2, hy2, hB2⟩
   clear hx2 hy2 hB2 hg2
   go_wp2_with fail
   go_roundw
   case rel => first | exact HRel | ((repeat apply Exists.intro); exact ⟨HRel, rfl⟩)
   case measure => simp [intOf]; omega
  ·obtain rfl : k = l.length := by omega
   have c0 : decide ((l.length : Int) < (l.length : Int)) = false := by simp
   rw [List.take_length] at hy
   have y0 := cell_of_heap hy 0 _ rfl
   have HB := Lib.hid hB
   clear hx hy hB
   go_wp2_with fail
   go_ret
   exact ⟨rfl, HB.out⟩
theorem sum_any (v : Value) (l : List Nat) (hb : ∀ x ∈ l, x < 256) (B : Nat) (w : World) (hO : w.ownsRow B 5 1 v l.length (b8 l)) (hl : l.length ≤ 4000000) (h0 : 0 < l.length) :
  Calls Tryz.prog 55 #[v] w fun e w' => e = .returned (.int .u32 (crcE l)) ∧ Below w.heap.size w w' := by
 have HE := Lib.hid (extend_any v l hb B w hO hl h0)
 clear hO
 go_enter Tryz.func55, Tryz.ntmps55
 go_wp2_with fail
 refine HE.out.mono ?_
 rintro e w2 ⟨rfl, hb2⟩
 have HB := Lib.hid hb2
 clear hb2
 go_wp2_with fail
 go_ret
 exact ⟨rfl, HB.out⟩
end Go.Proofs.YtbhppbeepmllaaaGreatDoor
