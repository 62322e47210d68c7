import Derived.Test.YtbhppbeepmllaaaGreatDoorM43672ae7
set_option linter.unusedVariables false
set_option linter.unusedSimpArgs false
set_option maxRecDepth 100000
set_option maxHeartbeats 2000000
namespace Go.Proofs.YtbhppbeepmllaaaGreatDoor
open Go.RowKit

theorem as259_yes (v : Value) (w : World) : (Instr.typeAssert (.iface 259 v) 130 259 true).run Tryz.prog w = .ok (.tuple #[v, .bool true]) w := by kernel_rfl
theorem as259_no (v : Value) (w : World) : (Instr.typeAssert (.iface 262 v) 130 259 true).run Tryz.prog w = .ok (.tuple #[.pointer none, .bool false]) w := by kernel_rfl
theorem as262_yes (v : Value) (w : World) : (Instr.typeAssert (.iface 262 v) 130 262 true).run Tryz.prog w = .ok (.tuple #[v, .bool true]) w := by kernel_rfl
theorem as262_no (v : Value) (w : World) : (Instr.typeAssert (.iface 259 v) 130 262 true).run Tryz.prog w = .ok (.tuple #[.pointer none, .bool false]) w := by kernel_rfl
theorem as262_must (v : Value) (w : World) : (Instr.typeAssert (.iface 262 v) 130 262 false).run Tryz.prog w = .ok v w := by kernel_rfl

structure Lv where
 a : Nat
 g : Nat
 cb : Nat
 cap : Nat
def Cfg.lt (c : Cfg) (l : Nat) : TypeId := if c.keys l ≤ c.wd then 259 else 262
theorem Cfg.lt_arr {c : Cfg} {l : Nat} (h : c.keys l ≤ c.wd) : c.lt l = 259 := if_pos h
theorem Cfg.lt_sk {c : Cfg} {l : Nat} (h : ¬ c.keys l ≤ c.wd) : c.lt l = 262 := if_neg h
def Cfg.size (c : Cfg) (l : Nat) : Nat := if c.keys l ≤ c.wd then c.keys l else c.r * c.wd
structure LevelOk (w : World) (v : Lv) (c : Cfg) (l : Nat) (cells : List Int) : Prop where
 arr : c.keys l ≤ c.wd → ArrOk w v.a v.g v.cb v.cap c l cells
 sk : ¬ c.keys l ≤ c.wd → SketchOk w v.a v.g v.cb v.cap c l cells
structure NewLevel (B : Nat) (w' : World) (v : Lv) (c : Cfg) (l : Nat) (cells : List Int) : Prop where
 ok : LevelOk w' v c l cells
 a1 : B ≤ v.a
 g1 : B ≤ v.g
 c1 : B ≤ v.cb
theorem LevelOk.len {w : World} {v : Lv} {c : Cfg} {l : Nat} {cells : List Int} (h : LevelOk w v c l cells) : cells.length = c.size l := by
 unfold Cfg.size
 by_cases he : c.keys l ≤ c.wd
 ·rw [if_pos he]; exact (h.arr he).len
 ·rw [if_neg he]; exact (h.sk he).grid.sz
theorem LevelOk.lt {w : World} {v : Lv} {c : Cfg} {l : Nat} {cells : List Int} (h : LevelOk w v c l cells) : v.a < w.heap.size ∧ v.g < w.heap.size ∧ v.cb < w.heap.size := by
 by_cases he : c.keys l ≤ c.wd
 ·exact (h.arr he).lt
 ·exact (h.sk he).lt
theorem LevelOk.below {w w' : World} {B : Nat} {v : Lv} {c : Cfg} {l : Nat} {cells : List Int} (h : LevelOk w v c l cells) (hb : Below B w w') (h1 : v.a < B) (h2 : v.g < B) (h3 : v.cb < B) : LevelOk w' v c l cells :=
 ⟨fun he => (h.arr he).below hb h1 h2 h3, fun he => (h.sk he).below hb h1 h2 h3⟩
theorem LevelOk.keep {w w' : World} {v : Lv} {c : Cfg} {l : Nat} {cells : List Int} (h : LevelOk w v c l cells) (h1 : w'.heap[v.a]? = w.heap[v.a]?) (h2 : w'.heap[v.g]? = w.heap[v.g]?) (h3 : w'.heap[v.cb]? = w.heap[v.cb]?) : LevelOk w' v c l cells :=
 ⟨fun he => ⟨h1.trans (h.arr he).hd, (h.arr he).grid.keep h2 h3, (h.arr he).few⟩, fun he => ⟨h1.trans (h.sk he).hd, (h.sk he).grid.keep h2 h3⟩⟩
theorem Cfg.size_pos {c : Cfg} (h : c.Ok) (l : Nat) : 1 ≤ c.size l ∧ c.size l ≤ 1024 := by
 have h1 := h.r1; have h2 := h.r2; have h3 := h.w1; have h4 := h.w2
 have h5 := c.keys_pos l
 have m1 : 1 * 1 ≤ c.r * c.wd := Nat.mul_le_mul h1 h3
 have m2 : c.r * c.wd ≤ 8 * 128 := Nat.mul_le_mul h2 h4
 unfold Cfg.size
 split <;> omega

theorem lvNew_arr (c : Cfg) (l : Nat) (w : World) (R : c.Ok) (hl : l ≤ c.b) (he : c.keys l ≤ c.wd) :
  Calls Tryz.prog 94 #[.agg #[.int .i64 c.b, .int .i64 c.r, .int .i64 c.wd, .int .i64 c.m, .int .u64 c.s], .int .i64 l] w fun e w' => (∃ v : Lv, e = .returned (.tuple #[.iface 259 (.pointer (some ⟨v.a, 0, none⟩)), .int .i64 0]) ∧ NewLevel w.heap.size w' v c l (List.replicate (c.size l) 0)) ∧ Below w.heap.size w w' := by
 have hsz : c.size l = c.keys l := by unfold Cfg.size; rw [if_pos he]
 rw [hsz]
 clear hsz
 have HE := Lib.hid fun w => exact_any c.b c.r c.wd c.m c.s l w R.rc (by omega) (by omega)
 have hkv : keysV c.b l = (c.keys l : Int) := keysV_nat c.b l
 rw [hkv] at HE
 have hde : decide ((c.keys l : Int) ≤ c.wd) = true := by simp; omega
 rw [hde] at HE
 have HN := Lib.hid fun w => aNew_any c l w R hl he
 have HHE := Lib.hid he
 clear hkv hde he
 go_enter Tryz.func94, Tryz.ntmps94
 go_wp2_with fail
 refine (HE.out _).mono ?_
 rintro e w1 ⟨rfl, hb1⟩
 have q0 : w1.cell? ⟨w.heap.size, 0, none⟩ = some (.int .i64 c.b) := (hb1.cell (p := ⟨w.heap.size, 0, none⟩) (by simp)).trans (by go_simp)
 have q1 : w1.cell? ⟨w.heap.size, 1, none⟩ = some (.int .i64 c.r) := (hb1.cell (p := ⟨w.heap.size, 1, none⟩) (by simp)).trans (by go_simp)
 have q2 : w1.cell? ⟨w.heap.size, 2, none⟩ = some (.int .i64 c.wd) := (hb1.cell (p := ⟨w.heap.size, 2, none⟩) (by simp)).trans (by go_simp)
 have q3 : w1.cell? ⟨w.heap.size, 3, none⟩ = some (.int .i64 c.m) := (hb1.cell (p := ⟨w.heap.size, 3, none⟩) (by simp)).trans (by go_simp)
 have q4 : w1.cell? ⟨w.heap.size, 4, none⟩ = some (.int .u64 c.s) := (hb1.cell (p := ⟨w.heap.size, 4, none⟩) (by simp)).trans (by go_simp)
 have kb := below_alloc hb1
 go_wp2_with fail
 refine (HN.out _).mono ?_
 rintro e w2 ⟨⟨a, g, cb, cap, rfl, hN⟩, hb2⟩
 go_wp2_with fail
 go_ret2
 have hs := kb.size
 refine ⟨⟨⟨a, g, cb, cap⟩, rfl, ⟨fun _ => hN.ok, fun h => absurd HHE.out h⟩, ?_, ?_, ?_⟩, kb.trans (hb2.mono hs)⟩
 ·exact Nat.le_trans hs hN.a1
 ·exact Nat.le_trans hs hN.g1
 ·exact Nat.le_trans hs hN.c1

theorem lvNew_sk (c : Cfg) (l : Nat) (w : World) (R : c.Ok) (hl : l ≤ c.b) (he : ¬ c.keys l ≤ c.wd) :
  Calls Tryz.prog 94 #[.agg #[.int .i64 c.b, .int .i64 c.r, .int .i64 c.wd, .int .i64 c.m, .int .u64 c.s], .int .i64 l] w fun e w' => (∃ v : Lv, e = .returned (.tuple #[.iface 262 (.pointer (some ⟨v.a, 0, none⟩)), .int .i64 0]) ∧ NewLevel w.heap.size w' v c l (List.replicate (c.size l) 0)) ∧ Below w.heap.size w w' := by
 have hsz : c.size l = c.r * c.wd := by unfold Cfg.size; rw [if_neg he]
 rw [hsz]
 clear hsz
 have HE := Lib.hid fun w => exact_any c.b c.r c.wd c.m c.s l w R.rc (by omega) (by omega)
 have hkv : keysV c.b l = (c.keys l : Int) := keysV_nat c.b l
 rw [hkv] at HE
 have hde : decide ((c.keys l : Int) ≤ c.wd) = false := by simp; omega
 rw [hde] at HE
 have HN := Lib.hid fun w => skNew_any c l w R hl
 have HHE := Lib.hid he
 clear hkv hde he
 go_enter Tryz.func94, Tryz.ntmps94
 go_wp2_with fail
 refine (HE.out _).mono ?_
 rintro e w1 ⟨rfl, hb1⟩
 have q0 : w1.cell? ⟨w.heap.size, 0, none⟩ = some (.int .i64 c.b) := (hb1.cell (p := ⟨w.heap.size, 0, none⟩) (by simp)).trans (by go_simp)
 have q1 : w1.cell? ⟨w.heap.size, 1, none⟩ = some (.int .i64 c.r) := (hb1.cell (p := ⟨w.heap.size, 1, none⟩) (by simp)).trans (by go_simp)
 have q2 : w1.cell? ⟨w.heap.size, 2, none⟩ = some (.int .i64 c.wd) := (hb1.cell (p := ⟨w.heap.size, 2, none⟩) (by simp)).trans (by go_simp)
 have q3 : w1.cell? ⟨w.heap.size, 3, none⟩ = some (.int .i64 c.m) := (hb1.cell (p := ⟨w.heap.size, 3, none⟩) (by simp)).trans (by go_simp)
 have q4 : w1.cell? ⟨w.heap.size, 4, none⟩ = some (.int .u64 c.s) := (hb1.cell (p := ⟨w.heap.size, 4, none⟩) (by simp)).trans (by go_simp)
 have kb := below_alloc hb1
 go_wp2_with fail
 refine (HN.out _).mono ?_
 rintro e w2 ⟨⟨a, g, cb, cap, rfl, hN⟩, hb2⟩
 go_wp2_with fail
 go_ret2
 have hs := kb.size
 refine ⟨⟨⟨a, g, cb, cap⟩, rfl, ⟨fun h => absurd h HHE.out, fun _ => hN.ok⟩, ?_, ?_, ?_⟩, kb.trans (hb2.mono hs)⟩
 ·exact Nat.le_trans hs hN.s1
 ·exact Nat.le_trans hs hN.g1
 ·exact Nat.le_trans hs hN.c1

theorem lvCopy_arr (v : Lv) (c : Cfg) (l : Nat) (cells : List Int) (w : World) (R : c.Ok) (S : LevelOk w v c l cells) (he : c.keys l ≤ c.wd) :
  Calls Tryz.prog 184 #[.iface 259 (.pointer (some ⟨v.a, 0, none⟩))] w fun e w' => (∃ v' : Lv, e = .returned (.iface 259 (.pointer (some ⟨v'.a, 0, none⟩))) ∧ NewLevel w.heap.size w' v' c l cells) ∧ Below w.heap.size w w' := by
 have hlen := S.len
 have hsp := Cfg.size_pos R l
 have HC := Lib.hid (aCopy_any v.a v.g v.cb v.cap c l cells w (S.arr he) R)
 have HHE := Lib.hid he
 clear he hlen hsp
 have ta1 := as259_yes; have ta2 := as259_no; have ta3 := as262_yes; have ta4 := as262_no; have ta5 := as262_must
 go_enter Tryz.func184, Tryz.ntmps184
 go_wp2_with fail
 refine HC.out.mono ?_
 rintro e w2 ⟨⟨a, g, cb, cap, rfl, hN⟩, hb2⟩
 go_wp2_with fail
 go_ret
 exact ⟨⟨⟨a, g, cb, cap⟩, rfl, ⟨fun _ => hN.ok, fun h => absurd HHE.out h⟩, hN.a1, hN.g1, hN.c1⟩, hb2⟩

theorem lvCopy_sk (v : Lv) (c : Cfg) (l : Nat) (cells : List Int) (w : World) (R : c.Ok) (S : LevelOk w v c l cells) (he : ¬ c.keys l ≤ c.wd) :
  Calls Tryz.prog 184 #[.iface 262 (.pointer (some ⟨v.a, 0, none⟩))] w fun e w' => (∃ v' : Lv, e = .returned (.iface 262 (.pointer (some ⟨v'.a, 0, none⟩))) ∧ NewLevel w.heap.size w' v' c l cells) ∧ Below w.heap.size w w' := by
 have hlen := S.len
 have hsp := Cfg.size_pos R l
 have HC := Lib.hid (skCopy_any v.a v.g v.cb v.cap c l cells w (S.sk he) (by omega) (by omega))
 have HHE := Lib.hid he
 clear he hlen hsp
 have ta1 := as259_yes; have ta2 := as259_no; have ta3 := as262_yes; have ta4 := as262_no; have ta5 := as262_must
 go_enter Tryz.func184, Tryz.ntmps184
 go_wp2_with fail
 refine HC.out.mono ?_
 rintro e w2 ⟨⟨a, g, cb, cap, rfl, hN⟩, hb2⟩
 go_wp2_with fail
 go_ret
 exact ⟨⟨⟨a, g, cb, cap⟩, rfl, ⟨fun h => absurd h HHE.out, fun _ => hN.ok⟩, hN.s1, hN.g1, hN.c1⟩, hb2⟩

theorem asSketch_sk (a : Nat) (w : World) : Calls Tryz.prog 229 #[.iface 262 (.pointer (some ⟨a, 0, none⟩))] w fun e w' => e = .returned (.tuple #[.pointer (some ⟨a, 0, none⟩), .bool true]) ∧ w = w' := by
 have ta1 := as259_yes; have ta2 := as259_no; have ta3 := as262_yes; have ta4 := as262_no; have ta5 := as262_must
 go_enter Tryz.func229, Tryz.ntmps229
 go_wp2
 go_ret2
 exact ⟨rfl, rfl⟩
theorem asSketch_arr (a : Nat) (w : World) : Calls Tryz.prog 229 #[.iface 259 (.pointer (some ⟨a, 0, none⟩))] w fun e w' => e = .returned (.tuple #[.pointer none, .bool false]) ∧ w = w' := by
 have ta1 := as259_yes; have ta2 := as259_no; have ta3 := as262_yes; have ta4 := as262_no; have ta5 := as262_must
 go_enter Tryz.func229, Tryz.ntmps229
 go_wp2
 go_ret2
 exact ⟨rfl, rfl⟩
theorem mustSketch_sk (a : Nat) (w : World) : Calls Tryz.prog 230 #[.iface 262 (.pointer (some ⟨a, 0, none⟩))] w fun e w' => e = .returned (.pointer (some ⟨a, 0, none⟩)) ∧ w = w' := by
 have ta1 := as259_yes; have ta2 := as259_no; have ta3 := as262_yes; have ta4 := as262_no; have ta5 := as262_must
 go_enter Tryz.func230, Tryz.ntmps230
 go_wp2
 go_ret
 exact ⟨rfl, rfl⟩
theorem arrays_arr (a b : Nat) (w : World) : Calls Tryz.prog 203 #[.iface 259 (.pointer (some ⟨a, 0, none⟩)), .iface 259 (.pointer (some ⟨b, 0, none⟩))] w fun e w' => e = .returned (.tuple #[.pointer (some ⟨a, 0, none⟩), .pointer (some ⟨b, 0, none⟩), .bool true]) ∧ w = w' := by
 have ta1 := as259_yes; have ta2 := as259_no; have ta3 := as262_yes; have ta4 := as262_no; have ta5 := as262_must
 go_enter Tryz.func203, Tryz.ntmps203
 go_wp2
 go_ret3
 exact ⟨rfl, rfl⟩
theorem sketches_sk (a b : Nat) (w : World) : Calls Tryz.prog 201 #[.iface 262 (.pointer (some ⟨a, 0, none⟩)), .iface 262 (.pointer (some ⟨b, 0, none⟩))] w fun e w' => e = .returned (.tuple #[.pointer (some ⟨a, 0, none⟩), .pointer (some ⟨b, 0, none⟩), .bool true]) ∧ w = w' := by
 have H1 := Lib.hid (asSketch_sk a w)
 have H2 := Lib.hid (asSketch_sk b w)
 have H3 := Lib.hid (mustSketch_sk b w)
 go_enter Tryz.func201, Tryz.ntmps201
 go_wp2_with fail
 refine H2.out.mono ?_
 rintro e w2 ⟨rfl, rfl⟩
 go_wp2_with fail
 refine H1.out.mono ?_
 rintro e w2 ⟨rfl, rfl⟩
 go_wp2_with fail
 refine H3.out.mono ?_
 rintro e w2 ⟨rfl, rfl⟩
 go_wp2_with fail
 go_ret3
 exact ⟨rfl, rfl⟩
theorem sketches_arr (a b : Nat) (w : World) : Calls Tryz.prog 201 #[.iface 259 (.pointer (some ⟨a, 0, none⟩)), .iface 259 (.pointer (some ⟨b, 0, none⟩))] w fun e w' => e = .returned (.tuple #[.pointer none, .pointer none, .bool false]) ∧ w = w' := by
 have H2 := Lib.hid (asSketch_arr b w)
 go_enter Tryz.func201, Tryz.ntmps201
 go_wp2_with fail
 refine H2.out.mono ?_
 rintro e w2 ⟨rfl, rfl⟩
 go_wp2_with fail
 go_ret3
 exact ⟨rfl, rfl⟩

theorem lvMerge_arr (v u : Lv) (c : Cfg) (l : Nat) (xs ys : List Int) (w : World) (R : c.Ok) (S : LevelOk w v c l xs) (T : LevelOk w u c l ys) (he : c.keys l ≤ c.wd) (hx : Small xs) (hy : Small ys) :
  Calls Tryz.prog 167 #[.iface 259 (.pointer (some ⟨v.a, 0, none⟩)), .iface 259 (.pointer (some ⟨u.a, 0, none⟩))] w fun e w' => e = .returned (.int .i64 0) ∧ LevelOk w' v c l (zipI (· + ·) xs ys) ∧ w.grownBy w' (some v.cb) := by
 have hlen := S.len
 have hsp := Cfg.size_pos R l
 have HS := Lib.hid (sketches_arr v.a u.a w)
 have HA := Lib.hid (arrays_arr v.a u.a w)
 have HC := Lib.hid (aMerge_any v.a v.g v.cb v.cap u.a u.g u.cb u.cap c l xs ys w (S.arr he) (T.arr he) R hx hy)
 have HHE := Lib.hid he
 clear he hlen hsp
 go_enter Tryz.func167, Tryz.ntmps167
 go_wp2_with fail
 refine HS.out.mono ?_
 rintro e w2 ⟨rfl, rfl⟩
 go_wp2_with fail
 refine HA.out.mono ?_
 rintro e w2 ⟨rfl, rfl⟩
 go_wp2_with fail
 refine HC.out.mono ?_
 rintro e w2 ⟨rfl, hN, hg⟩
 have HN := Lib.hid hN
 clear hN
 go_wp2_with fail
 go_ret
 exact ⟨rfl, ⟨fun _ => HN.out, fun h => absurd HHE.out h⟩, hg⟩

theorem lvMerge_sk (v u : Lv) (c : Cfg) (l : Nat) (xs ys : List Int) (w : World) (R : c.Ok) (S : LevelOk w v c l xs) (T : LevelOk w u c l ys) (he : ¬ c.keys l ≤ c.wd) (hx : Small xs) (hy : Small ys) :
  Calls Tryz.prog 167 #[.iface 262 (.pointer (some ⟨v.a, 0, none⟩)), .iface 262 (.pointer (some ⟨u.a, 0, none⟩))] w fun e w' => e = .returned (.int .i64 0) ∧ LevelOk w' v c l (zipI (· + ·) xs ys) ∧ w.grownBy w' (some v.cb) := by
 have hlen := S.len
 have hsp := Cfg.size_pos R l
 have HS := Lib.hid (sketches_sk v.a u.a w)
 have HA := Lib.hid (arrays_arr v.a u.a w)
 have HC := Lib.hid (skMerge_any v.a v.g v.cb v.cap u.a u.g u.cb u.cap c l xs ys w (S.sk he) (T.sk he) (by omega) (by omega) hx hy)
 have HHE := Lib.hid he
 clear he hlen hsp
 go_enter Tryz.func167, Tryz.ntmps167
 go_wp2_with fail
 refine HS.out.mono ?_
 rintro e w2 ⟨rfl, rfl⟩
 go_wp2_with fail
 refine HC.out.mono ?_
 rintro e w2 ⟨rfl, hN, hg⟩
 have HN := Lib.hid hN
 clear hN
 go_wp2_with fail
 go_ret
 exact ⟨rfl, ⟨fun h => absurd h HHE.out, fun _ => HN.out⟩, hg⟩

theorem lvSub_arr (v u : Lv) (c : Cfg) (l : Nat) (xs ys : List Int) (w : World) (R : c.Ok) (S : LevelOk w v c l xs) (T : LevelOk w u c l ys) (he : c.keys l ≤ c.wd) (hx : Small xs) (hy : Small ys) (hm : c.m ≠ 2) :
  Calls Tryz.prog 169 #[.iface 259 (.pointer (some ⟨v.a, 0, none⟩)), .iface 259 (.pointer (some ⟨u.a, 0, none⟩))] w fun e w' => e = .returned (.int .i64 0) ∧ LevelOk w' v c l (zipI (· - ·) xs ys) ∧ w.grownBy w' (some v.cb) := by
 have hlen := S.len
 have hsp := Cfg.size_pos R l
 have HS := Lib.hid (sketches_arr v.a u.a w)
 have HA := Lib.hid (arrays_arr v.a u.a w)
 have HC := Lib.hid (aSub_any v.a v.g v.cb v.cap u.a u.g u.cb u.cap c l xs ys w (S.arr he) (T.arr he) R hx hy hm)
 have HHE := Lib.hid he
 clear he hlen hsp
 go_enter Tryz.func169, Tryz.ntmps169
 go_wp2_with fail
 refine HS.out.mono ?_
 rintro e w2 ⟨rfl, rfl⟩
 go_wp2_with fail
 refine HA.out.mono ?_
 rintro e w2 ⟨rfl, rfl⟩
 go_wp2_with fail
 refine HC.out.mono ?_
 rintro e w2 ⟨rfl, hN, hg⟩
 have HN := Lib.hid hN
 clear hN
 go_wp2_with fail
 go_ret
 exact ⟨rfl, ⟨fun _ => HN.out, fun h => absurd HHE.out h⟩, hg⟩

theorem lvSub_sk (v u : Lv) (c : Cfg) (l : Nat) (xs ys : List Int) (w : World) (R : c.Ok) (S : LevelOk w v c l xs) (T : LevelOk w u c l ys) (he : ¬ c.keys l ≤ c.wd) (hx : Small xs) (hy : Small ys) (hm : c.m ≠ 2) :
  Calls Tryz.prog 169 #[.iface 262 (.pointer (some ⟨v.a, 0, none⟩)), .iface 262 (.pointer (some ⟨u.a, 0, none⟩))] w fun e w' => e = .returned (.int .i64 0) ∧ LevelOk w' v c l (zipI (· - ·) xs ys) ∧ w.grownBy w' (some v.cb) := by
 have hlen := S.len
 have hsp := Cfg.size_pos R l
 have HS := Lib.hid (sketches_sk v.a u.a w)
 have HA := Lib.hid (arrays_arr v.a u.a w)
 have HC := Lib.hid (skSub_any v.a v.g v.cb v.cap u.a u.g u.cb u.cap c l xs ys w (S.sk he) (T.sk he) (by omega) (by omega) hx hy hm)
 have HHE := Lib.hid he
 clear he hlen hsp
 go_enter Tryz.func169, Tryz.ntmps169
 go_wp2_with fail
 refine HS.out.mono ?_
 rintro e w2 ⟨rfl, rfl⟩
 go_wp2_with fail
 refine HC.out.mono ?_
 rintro e w2 ⟨rfl, hN, hg⟩
 have HN := Lib.hid hN
 clear hN
 go_wp2_with fail
 go_ret
 exact ⟨rfl, ⟨fun h => absurd h HHE.out, fun _ => HN.out⟩, hg⟩

end Go.Proofs.YtbhppbeepmllaaaGreatDoor

namespace Go.Proofs.YtbhppbeepmllaaaGreatDoor
open Go.RowKit

def Cfg.inner (c : Cfg) (l : Nat) (xs ys : List Int) : Int := if c.keys l ≤ c.wd then dotK xs ys (c.keys l) else innerK c.wd xs ys c.r

theorem cell_of_heap {w : World} {b : Nat} {cs : Array Value} {t : TypeId} {fr : Nat × Nat} (h : w.heap[b]? = some (.cells cs t fr)) (o : Nat) (v : Value) (hv : cs[o]? = some v) : w.cell? ⟨b, o, none⟩ = some v := by simp [World.cell?, h, hv]
theorem cfgMode (b r wd m : Int) (s : Int) (w : World) : (Instr.field 24 (.agg #[.int .i64 b, .int .i64 r, .int .i64 wd, .int .i64 m, .int .u64 s]) 3).run Tryz.prog w = .ok (.int .i64 m) w := by kernel_rfl
theorem aCellsN_any (a g cb cap n : Nat) (c : Cfg) (l : Nat) (cells : List Int) (w : World) (S : ArrOk w a g cb cap c l cells) (R : c.Ok) (hl : cells.length = n) :
  Calls Tryz.prog 207 #[.pointer (some ⟨a, 0, none⟩)] w fun e w' => (∃ gg c, e = .returned (.slice (some ⟨gg, 0, none⟩) n c) ∧ w'.ownsRow w.heap.size 2 1 (.slice (some ⟨gg, 0, none⟩) n c) n (i64s cells)) ∧ Below w.heap.size w w' := by
 subst hl; exact aCells_any a g cb cap c l cells w S R

theorem lvInner_sk (v u : Lv) (c : Cfg) (l : Nat) (xs ys : List Int) (w : World) (R : c.Ok) (S : LevelOk w v c l xs) (T : LevelOk w u c l ys) (he : ¬ c.keys l ≤ c.wd) (hm : c.m = 1)
  (sx : ∀ x ∈ xs, -2147483648 ≤ x ∧ x ≤ 2147483648) (sy : ∀ x ∈ ys, -2147483648 ≤ x ∧ x ≤ 2147483648)
  (hb : ∀ row k, -2305843009213693952 ≤ dotK (rowL c.wd xs row) (rowL c.wd ys row) k ∧ dotK (rowL c.wd xs row) (rowL c.wd ys row) k ≤ 2305843009213693952) :
  Calls Tryz.prog 166 #[.iface 262 (.pointer (some ⟨v.a, 0, none⟩)), .iface 262 (.pointer (some ⟨u.a, 0, none⟩))] w fun e w' => e = .returned (.tuple #[wv (c.inner l xs ys), .int .i64 0]) ∧ Below w.heap.size w w' := by
 have hI : c.inner l xs ys = innerK c.wd xs ys c.r := by unfold Cfg.inner; rw [if_neg he]
 rw [hI, wv_eq]
 clear hI
 have HS := Lib.hid fun w => sketches_sk v.a u.a w
 have S1 := (S.sk he).below ((Below.refl _ _).alloc (Nat.le_refl _) (.cells #[.int .i64 0, .int .u64 0] 188)) (S.sk he).lt.1 (S.sk he).lt.2.1 (S.sk he).lt.2.2
 have T1 := (T.sk he).below ((Below.refl _ _).alloc (Nat.le_refl _) (.cells #[.int .i64 0, .int .u64 0] 188)) (T.sk he).lt.1 (T.sk he).lt.2.1 (T.sk he).lt.2.2
 have hC := inner_any v.a v.g v.cb v.cap u.a u.g u.cb u.cap c l xs ys _ S1 T1 R hm sx sy hb
 rw [wv_eq] at hC
 have HC := Lib.hid hC
 clear hC S1 T1 S T sx sy hb he hm
 obtain ⟨n, hn⟩ : ∃ n, innerK c.wd xs ys c.r = n := ⟨_, rfl⟩
 rw [hn] at HC ⊢
 clear hn
 have hcf := cfgMode
 go_enter Tryz.func166, Tryz.ntmps166
 go_wp2_with fail
 refine (HS.out _).mono ?_
 rintro e w2 ⟨rfl, rfl⟩
 go_wp2_with fail
 refine HC.out.mono ?_
 rintro e w2 ⟨rfl, hb2⟩
 have kb := below_alloc hb2
 have b0 : w2.heap[w.heap.size]? = some (.cells #[.int .i64 0, .int .u64 0] 188 (0, 0)) := (hb2.block _ (by simp)).trans (heap_alloc_at _ rfl)
 have hf0 : ∀ o, w2.frozen? ⟨w.heap.size, o, none⟩ = false := fun o => by simp [World.frozen?, b0]
 have e0 : w2.cell? ⟨w.heap.size, 0, none⟩ = some (.int .i64 0) := by simp [World.cell?, b0]
 have e1 : w2.cell? ⟨w.heap.size, 1, none⟩ = some (.int .u64 0) := by simp [World.cell?, b0]
 have s0 : (w2.setCell ⟨w.heap.size, 0, none⟩ (.int .i64 (wvh n))).cell? ⟨w.heap.size, 0, none⟩ = some (.int .i64 (wvh n)) := by simp [World.cell?, heap_setCell_same _ _ 0 _ _ _ b0]
 have s1 : ((w2.setCell ⟨w.heap.size, 0, none⟩ (.int .i64 (wvh n))).setCell ⟨w.heap.size, 1, none⟩ (.int .u64 (wvl n))).cell? ⟨w.heap.size, 1, none⟩ = some (.int .u64 (wvl n)) := by simp [World.cell?, two_set b0]
 have s2 : ((w2.setCell ⟨w.heap.size, 0, none⟩ (.int .i64 (wvh n))).setCell ⟨w.heap.size, 1, none⟩ (.int .u64 (wvl n))).cell? ⟨w.heap.size, 0, none⟩ = some (.int .i64 (wvh n)) := by simp [World.cell?, two_set b0]
 go_wp2_with fail
 exact bodyPost_ret (v := .tuple #[.agg #[.int .i64 (wvh n), .int .u64 (wvl n)], .int .i64 0]) (by simp [results, Tryz.results166, go_sem, s0, s1, s2]) rfl ⟨rfl, (kb.setCell (Nat.le_refl _) _).setCell (Nat.le_refl _) _⟩

theorem lvInner_arr (v u : Lv) (c : Cfg) (l : Nat) (xs ys : List Int) (w : World) (R : c.Ok) (S : LevelOk w v c l xs) (T : LevelOk w u c l ys) (he : c.keys l ≤ c.wd) (hm : c.m = 1)
  (sx : ∀ x ∈ xs, -2147483648 ≤ x ∧ x ≤ 2147483648) (sy : ∀ x ∈ ys, -2147483648 ≤ x ∧ x ≤ 2147483648)
  (hb : ∀ k, -2305843009213693952 ≤ dotK xs ys k ∧ dotK xs ys k ≤ 2305843009213693952) :
  Calls Tryz.prog 166 #[.iface 259 (.pointer (some ⟨v.a, 0, none⟩)), .iface 259 (.pointer (some ⟨u.a, 0, none⟩))] w fun e w' => e = .returned (.tuple #[wv (c.inner l xs ys), .int .i64 0]) ∧ Below w.heap.size w w' := by
 have hI : c.inner l xs ys = dotK xs ys (c.keys l) := by unfold Cfg.inner; rw [if_pos he]
 rw [hI, wv_eq]
 clear hI
 have HS := Lib.hid fun w => sketches_arr v.a u.a w
 have HA := Lib.hid fun w => arrays_arr v.a u.a w
 have hs := (S.arr he).lt
 have ht := (T.arr he).lt
 have hlx := (S.arr he).len
 have hly := (T.arr he).len
 have hkp := c.keys_pos l
 have hw2 := R.w2
 have C1 := Lib.hid fun (k : After w.heap.size w) => aConfig_any v.a v.g v.cb v.cap c l xs k.w ((S.arr he).below k.h hs.1 hs.2.1 hs.2.2)
 have C2 := Lib.hid fun (k : After w.heap.size w) => aConfig_any u.a u.g u.cb u.cap c l ys k.w ((T.arr he).below k.h ht.1 ht.2.1 ht.2.2)
 have L1 := Lib.hid fun (k : After w.heap.size w) => aLevel_any v.a v.g v.cb v.cap c l xs k.w ((S.arr he).below k.h hs.1 hs.2.1 hs.2.2)
 have L2 := Lib.hid fun (k : After w.heap.size w) => aLevel_any u.a u.g u.cb u.cap c l ys k.w ((T.arr he).below k.h ht.1 ht.2.1 ht.2.2)
 have X1 := Lib.hid fun (k : After w.heap.size w) => aCellsN_any v.a v.g v.cb v.cap (c.keys l) c l xs k.w ((S.arr he).below k.h hs.1 hs.2.1 hs.2.2) R hlx
 have X2 := Lib.hid fun (k : After w.heap.size w) => aCellsN_any u.a u.g u.cb u.cap (c.keys l) c l ys k.w ((T.arr he).below k.h ht.1 ht.2.1 ht.2.2) R hly
 have hme : ((c.m : Int) == 1) = true := by simp; omega
 have hme2 : decide ((c.m : Int) = 1) = true := by simp; omega
 have DD := Lib.hid fun (g1 c1 g2 c2 : Nat) (wq : World) => dot_any xs ys g1 0 c1 g2 0 c2 (c.keys l) wq hlx hly
 have SX := Lib.hid sx; have SY := Lib.hid sy; have HB := Lib.hid hb
 have HLX := Lib.hid hlx; have HLY := Lib.hid hly
 clear S T sx sy hb hm hlx hly
 obtain ⟨n, hn⟩ : ∃ n, c.keys l = n := ⟨_, rfl⟩
 rw [hn] at X1 X2 DD HLX HLY hkp he ⊢
 clear hn
 have hcf := cfgMode
 go_enter Tryz.func166, Tryz.ntmps166
 go_wp2_with fail
 refine (HS.out _).mono ?_
 rintro e w2 ⟨rfl, rfl⟩
 go_wp2_with fail
 refine (HA.out _).mono ?_
 rintro e w2 ⟨rfl, rfl⟩
 go_wp2_with fail
 have hb0 : Below w.heap.size w (w.alloc (.cells #[.int .i64 0, .int .u64 0] 188)) := (Below.refl _ _).alloc (Nat.le_refl _) _
 refine (C1.out ⟨_, hb0⟩).mono ?_
 rintro e w1 ⟨rfl, hb1⟩
 have k1 := hb0.trans (hb1.mono hb0.size)
 go_wp2_with fail
 refine (C2.out ⟨_, k1⟩).mono ?_
 rintro e w2 ⟨rfl, hb2⟩
 have k2 := k1.trans (hb2.mono k1.size)
 go_wp2_with fail
 refine (L1.out ⟨_, k2⟩).mono ?_
 rintro e w2' ⟨rfl, rfl⟩
 go_wp2_with fail
 refine (L2.out ⟨_, k2⟩).mono ?_
 rintro e w2' ⟨rfl, rfl⟩
 go_wp2_with fail
 refine (C1.out ⟨_, k2⟩).mono ?_
 rintro e w3 ⟨rfl, hb3⟩
 have k3 := k2.trans (hb3.mono k2.size)
 go_wp2_with fail
 refine (X1.out ⟨_, k3⟩).mono ?_
 rintro e w4 ⟨⟨xg, xc, rfl, xo⟩, hb4⟩
 have k4 := k3.trans (hb4.mono k3.size)
 go_wp2_with fail
 refine (X2.out ⟨_, k4⟩).mono ?_
 rintro e w5 ⟨⟨yg, yc, rfl, yo⟩, hb5⟩
 have k5 := k4.trans (hb5.mono k4.size)
 have xo5 := xo.kept (grown_of_below hb5 none) (by simp [Value.ownBlock])
 have hD := DD.out xg xc yg yc w5 (ints_lt xo5) (ints_lt yo) (by omega)
  (fun k x hk => by rw [Nat.zero_add]; exact (xo5.cellAt k (by have := (List.getElem?_eq_some_iff.1 hk).1; have := HLX.out; omega)).trans (i64s_at hk))
  (fun k x hk => by rw [Nat.zero_add]; exact (yo.cellAt k (by have := (List.getElem?_eq_some_iff.1 hk).1; have := HLY.out; omega)).trans (i64s_at hk)) SX.out SY.out HB.out
 rw [wv_eq] at hD
 have HD := Lib.hid hD
 clear hD
 have z0 : w5.heap[w.heap.size]? = some (.cells #[.int .i64 0, .int .u64 0] 188 (0, 0)) := by
  have a1 := (hb1.block _ (by simp)).trans (heap_alloc_at (w := w) (.cells #[.int .i64 0, .int .u64 0] 188) rfl)
  have l1 := lt_of_block a1
  have a2 := (hb2.block _ l1).trans a1
  have l2 := lt_of_block a2
  have a3 := (hb3.block _ l2).trans a2
  have l3 := lt_of_block a3
  have a4 := (hb4.block _ l3).trans a3
  exact (hb5.block _ (lt_of_block a4)).trans a4
 go_wp2_with fail
 refine HD.out.mono ?_
 rintro e w6 ⟨rfl, hb6⟩
 have k6 := k5.trans (hb6.mono k5.size)
 have b0 := (hb6.block _ (lt_of_block z0)).trans z0
 have l0 := lt_of_block b0
 have hf0 : ∀ o, w6.frozen? ⟨w.heap.size, o, none⟩ = false := fun o => by simp [World.frozen?, b0]
 have e0 : w6.cell? ⟨w.heap.size, 0, none⟩ = some (.int .i64 0) := by simp [World.cell?, b0]
 have e1 : w6.cell? ⟨w.heap.size, 1, none⟩ = some (.int .u64 0) := by simp [World.cell?, b0]
 have s0 : (w6.setCell ⟨w.heap.size, 0, none⟩ (.int .i64 (wvh (dotK xs ys n)))).cell? ⟨w.heap.size, 0, none⟩ = some (.int .i64 (wvh (dotK xs ys n))) := by simp [World.cell?, heap_setCell_same _ _ 0 _ _ _ b0]
 have s1 : ((w6.setCell ⟨w.heap.size, 0, none⟩ (.int .i64 (wvh (dotK xs ys n)))).setCell ⟨w.heap.size, 1, none⟩ (.int .u64 (wvl (dotK xs ys n)))).cell? ⟨w.heap.size, 1, none⟩ = some (.int .u64 (wvl (dotK xs ys n))) := by simp [World.cell?, two_set b0]
 have s2 : ((w6.setCell ⟨w.heap.size, 0, none⟩ (.int .i64 (wvh (dotK xs ys n)))).setCell ⟨w.heap.size, 1, none⟩ (.int .u64 (wvl (dotK xs ys n)))).cell? ⟨w.heap.size, 0, none⟩ = some (.int .i64 (wvh (dotK xs ys n))) := by simp [World.cell?, two_set b0]
 go_wp2_with fail
 have hb9 := heap_alloc_under (.cells #[.int .i64 (wvh (dotK xs ys n)), .int .u64 (wvl (dotK xs ys n))] 188) (two_set b0 (.int .i64 (wvh (dotK xs ys n))) (.int .u64 (wvl (dotK xs ys n))))
 have t0 := cell_of_heap hb9 0 (.int .i64 (wvh (dotK xs ys n))) (by simp)
 have t1 := cell_of_heap hb9 1 (.int .u64 (wvl (dotK xs ys n))) (by simp)
 exact bodyPost_ret (v := .tuple #[.agg #[.int .i64 (wvh (dotK xs ys n)), .int .u64 (wvl (dotK xs ys n))], .int .i64 0]) (by simp [results, Tryz.results166, go_sem, t0, t1]) rfl ⟨rfl, by go_grown⟩
end Go.Proofs.YtbhppbeepmllaaaGreatDoor

namespace Go.Proofs.YtbhppbeepmllaaaGreatDoor
open Go.RowKit

abbrev Pc := Nat × Nat
def pcV (p : Pc) : Value := .agg #[.int .i64 p.1, .int .u64 p.2]
theorem isPiece_any (b l i : Nat) (w : World) (hb1 : 1 ≤ b) (hb2 : b ≤ 59) (hl : l ≤ b) (hi : i < 2 ^ (b - l)) :
    Calls Tryz.prog 200 #[.int .i64 b, .agg #[.int .i64 l, .int .u64 i]] w fun e w' => e = .returned (.bool true) ∧ Below w.heap.size w w' := by
  have hk : 2 ^ (b - l) ≤ 2 ^ 59 := Nat.pow_le_pow_right (by omega) (by omega)
  have hi' : (i : Int) < 2 ^ (b - l) := by have : ((i : Nat) : Int) < ((2 ^ (b - l) : Nat) : Int) := by omega
                                           simpa using this
  have hk' : (2 : Int) ^ (b - l) ≤ 576460752303423488 := by have : ((2 ^ (b - l) : Nat) : Int) ≤ ((2 ^ 59 : Nat) : Int) := by omega
                                                            simpa using this
  have hk0 : (0 : Int) ≤ 2 ^ (b - l) := by omega
  have hn : ((b : Int) - (l : Int)).toNat = b - l := by omega
  have hw : IntKind.u64.wrap (2 ^ (b - l) : Int) = 2 ^ (b - l) := by rw [IntKind.wrap_u64]; omega
  have hw2 : IntKind.i64.wrap ((b : Int) - l) = (b : Int) - l := by rw [IntKind.wrap_i64]; omega
  have d1 : decide ((1 : Int) ≤ b) = true := by simp; omega
  have d2 : decide ((b : Int) ≤ 59) = true := by simp; omega
  have d3 : decide ((0 : Int) ≤ l) = true := by simp
  have d4 : decide ((l : Int) ≤ b) = true := by simp; omega
  go_enter Tryz.func200, Tryz.ntmps200
  go_wp2_with fail
  go_quiet (fail)
  go_wp2
  go_ret
  exact ⟨rfl, below_drewN ((Below.refl _ _).alloc (Nat.le_refl _) _) _⟩

theorem halves_any (b l i : Nat) (w : World) (hb1 : 1 ≤ b) (hb2 : b ≤ 59) (hl0 : 1 ≤ l) (hl : l ≤ b) (hi : i < 2 ^ (b - l)) :
    Calls Tryz.prog 163 #[.int .i64 b, .agg #[.int .i64 l, .int .u64 i]] w fun e w' =>
      e = .returned (.tuple #[.agg #[.int .i64 ((l - 1 : Nat) : Int), .int .u64 ((2 * i : Nat) : Int)], .agg #[.int .i64 ((l - 1 : Nat) : Int), .int .u64 ((2 * i + 1 : Nat) : Int)], .bool true]) ∧ Below w.heap.size w w' := by
  have hk : 2 ^ (b - l) ≤ 2 ^ 58 := Nat.pow_le_pow_right (by omega) (by omega)
  have hil : i < 288230376151711744 := by omega
  have HI := Lib.hid fun w => isPiece_any b l i w hb1 hb2 hl hi
  obtain ⟨m, rfl⟩ : ∃ m, l = m + 1 := ⟨l - 1, by omega⟩
  have e1 : (((m + 1 - 1 : Nat)) : Int) = (m : Int) := by omega
  have e2 : ((2 * i : Nat) : Int) = 2 * (i : Int) := by omega
  have e3 : ((2 * i + 1 : Nat) : Int) = 2 * (i : Int) + 1 := by omega
  have e4 : ((m + 1 : Nat) : Int) = (m : Int) + 1 := by omega
  rw [e1, e2, e3]
  rw [e4] at HI ⊢
  have u1 : IntKind.i64.wrap ((m : Int) + 1 - 1) = m := by rw [IntKind.wrap_i64]; omega
  have u2 : IntKind.u64.wrap (2 * (i : Int)) = 2 * (i : Int) := by rw [IntKind.wrap_u64]; omega
  have u3 : IntKind.u64.wrap (2 * (i : Int) + 1) = 2 * (i : Int) + 1 := by rw [IntKind.wrap_u64]; omega
  have n1 : w.heap.size ≠ w.heap.size + 1 + 1 := by omega
  have n2 : w.heap.size ≠ w.heap.size + 1 := by omega
  have n3 : ¬ w.heap.size + 1 + 1 = w.heap.size := by omega
  have n4 : ¬ w.heap.size + 1 = w.heap.size := by omega
  have u5 : IntKind.i64.wrap (m : Int) = m := by rw [IntKind.wrap_i64]; omega
  have u4 : wrap64 (m : Int) = m := IntWalk.wrap64_in _ (by omega)
  have d1 : decide ((m : Int) + 1 = 0) = false := by simp; omega
  clear hk hi hl0 hl e1 e2 e3 e4
  go_enter Tryz.func163, Tryz.ntmps163
  go_wp2_with fail
  refine (HI.out _).mono ?_
  rintro e w1 ⟨rfl, hb⟩
  have h0 : w1.heap[w.heap.size]? = some (.cells #[.int .i64 ((m : Int) + 1), .int .u64 i] 55 (0, 0)) := (hb.block _ (by simp; omega)).trans (heap_alloc_under _ (heap_alloc_under _ (heap_alloc_at _ rfl)))
  have h1 : w1.heap[w.heap.size + 1]? = some (.cells #[.int .i64 0, .int .u64 0] 55 (0, 0)) := (hb.block _ (by simp)).trans (heap_alloc_under _ (heap_alloc_at _ (by simp)))
  have h2 : w1.heap[w.heap.size + 1 + 1]? = some (.cells #[.int .i64 0, .int .u64 0] 55 (0, 0)) := (hb.block _ (by simp)).trans (heap_alloc_at _ (by simp))
  have kw := below_alloc (below_alloc (below_alloc hb))
  have l0 := lt_of_block h0
  have l1 := lt_of_block h1
  have l2 := lt_of_block h2
  have q0 : w1.cell? ⟨w.heap.size, 0, none⟩ = some (.int .i64 ((m : Int) + 1)) := by simp [World.cell?, h0]
  have q1 : w1.cell? ⟨w.heap.size, 1, none⟩ = some (.int .u64 i) := by simp [World.cell?, h0]
  go_wp2_with fail
  have r0 : w1.cell? ⟨w.heap.size + 1, 0, none⟩ = some (.int .i64 0) := by simp [World.cell?, h1]
  have r1 : w1.cell? ⟨w.heap.size + 1, 1, none⟩ = some (.int .u64 0) := by simp [World.cell?, h1]
  have p0 : w1.cell? ⟨w.heap.size + 1 + 1, 0, none⟩ = some (.int .i64 0) := by simp [World.cell?, h2]
  have p1 : w1.cell? ⟨w.heap.size + 1 + 1, 1, none⟩ = some (.int .u64 0) := by simp [World.cell?, h2]
  have f1 : ∀ o, w1.frozen? ⟨w.heap.size + 1, o, none⟩ = false := fun o => by simp [World.frozen?, h1]
  have f2 : ∀ o, w1.frozen? ⟨w.heap.size + 1 + 1, o, none⟩ = false := fun o => by simp [World.frozen?, h2]
  go_region_held3 (fun w' => w'.cell? ⟨w.heap.size, 0, none⟩ = some (.int .i64 ((m : Int) + 1)) ∧ w'.cell? ⟨w.heap.size, 1, none⟩ = some (.int .u64 i)) (go_keep) (fail)
  go_wp2_with fail
  have a1 := two_set h1 (.int .i64 (m : Int)) (.int .u64 (2 * (i : Int)))
  have a2 : ((w1.setCell ⟨w.heap.size + 1, 0, none⟩ (.int .i64 (m : Int))).setCell ⟨w.heap.size + 1, 1, none⟩ (.int .u64 (2 * (i : Int)))).heap[w.heap.size + 1 + 1]? = some (.cells #[.int .i64 0, .int .u64 0] 55 (0, 0)) :=
    (heap_setCell_other _ _ _ _ (by simp)).trans ((heap_setCell_other _ _ _ _ (by simp)).trans h2)
  have b2 := two_set a2 (.int .i64 (m : Int)) (.int .u64 (2 * (i : Int) + 1))
  have b1 := (heap_setCell_other _ ⟨w.heap.size + 1 + 1, 1, none⟩ _ (.int .u64 (2 * (i : Int) + 1)) (by simp)).trans ((heap_setCell_other _ ⟨w.heap.size + 1 + 1, 0, none⟩ _ (.int .i64 (m : Int)) (by simp)).trans a1)
  have kX := (((kw.setCell (p := ⟨w.heap.size + 1, 0, none⟩) (by simp) (.int .i64 (m : Int))).setCell (p := ⟨w.heap.size + 1, 1, none⟩) (by simp) (.int .u64 (2 * (i : Int)))).setCell (p := ⟨w.heap.size + 1 + 1, 0, none⟩) (by simp <;> omega) (.int .i64 (m : Int))).setCell (p := ⟨w.heap.size + 1 + 1, 1, none⟩) (by simp <;> omega) (.int .u64 (2 * (i : Int) + 1))
  obtain ⟨X, hX⟩ : ∃ X, (((w1.setCell ⟨w.heap.size + 1, 0, none⟩ (.int .i64 (m : Int))).setCell ⟨w.heap.size + 1, 1, none⟩ (.int .u64 (2 * (i : Int)))).setCell ⟨w.heap.size + 1 + 1, 0, none⟩ (.int .i64 (m : Int))).setCell ⟨w.heap.size + 1 + 1, 1, none⟩ (.int .u64 (2 * (i : Int) + 1)) = X := ⟨_, rfl⟩
  rw [hX] at b1 b2 kX ⊢
  clear hX a1 a2 r0 r1 p0 p1 q0 q1 f1 f2 h0 h1 h2
  have t0 := cell_of_heap b1 0 (.int .i64 (m : Int)) (by simp)
  have t1 := cell_of_heap b1 1 (.int .u64 (2 * (i : Int))) (by simp)
  have t2 := cell_of_heap b2 0 (.int .i64 (m : Int)) (by simp)
  have t3 := cell_of_heap b2 1 (.int .u64 (2 * (i : Int) + 1)) (by simp)
  exact bodyPost_ret (v := .tuple #[.agg #[.int .i64 (m : Int), .int .u64 (2 * (i : Int))], .agg #[.int .i64 (m : Int), .int .u64 (2 * (i : Int) + 1)], .bool true]) (by simp [results, Tryz.results163, go_sem, t0, t1, t2, t3]) rfl ⟨rfl, kX.drew⟩
end Go.Proofs.YtbhppbeepmllaaaGreatDoor

namespace Go.Proofs.YtbhppbeepmllaaaGreatDoor
open Go.RowKit

def pcs (l : List Pc) : List Value := l.flatMap fun p => [.int .i64 p.1, .int .u64 p.2]
theorem pcs_cons (p : Pc) (l : List Pc) : pcs (p :: l) = .int .i64 p.1 :: .int .u64 p.2 :: pcs l := by simp [pcs]
theorem pcs_len (l : List Pc) : (pcs l).length = l.length * 2 := by
 induction l with
 | nil => rfl
 | cons p l ih => rw [pcs_cons]; simp only [List.length_cons, ih]; omega
theorem pcs_append (l m : List Pc) : pcs (l ++ m) = pcs l ++ pcs m := by simp [pcs]
theorem pcs_at : ∀ (l : List Pc) (k : Nat) (p : Pc), l[k]? = some p → (pcs l)[k * 2]? = some (.int .i64 p.1) ∧ (pcs l)[k * 2 + 1]? = some (.int .u64 p.2)
 | [], k, p, h => by simp at h
 | q :: l, 0, p, h => by simp at h; subst h; simp [pcs_cons]
 | q :: l, k + 1, p, h => by
  have := pcs_at l k p (by simpa using h)
  rw [pcs_cons, show (k + 1) * 2 = k * 2 + 2 by omega, show k * 2 + 2 + 1 = k * 2 + 1 + 2 by omega]
  simpa using this
theorem pcs_set : ∀ (l : List Pc) (k : Nat) (p : Pc), ((pcs l).set (k * 2) (.int .i64 p.1)).set (k * 2 + 1) (.int .u64 p.2) = pcs (l.set k p)
 | [], k, p => by simp [pcs]
 | q :: l, 0, p => by simp [pcs_cons]
 | q :: l, k + 1, p => by
  rw [pcs_cons, show (k + 1) * 2 = k * 2 + 2 by omega, show k * 2 + 2 + 1 = k * 2 + 1 + 2 by omega]
  simp only [List.set_cons_succ]
  rw [pcs_set l k p, pcs_cons]

def revK (l : List Pc) : Nat → List Pc
 | 0 => l
 | k + 1 => ((revK l k).set k ((revK l k).getD (l.length - 1 - k) (0, 0))).set (l.length - 1 - k) ((revK l k).getD k (0, 0))
theorem revK_len (l : List Pc) (k : Nat) : (revK l k).length = l.length := by
 induction k with
 | zero => rfl
 | succ k ih => simp [revK, ih]
theorem revK_at (l : List Pc) (k : Nat) (hk : 2 * k ≤ l.length) (i : Nat) (hi : i < l.length) : (revK l k)[i]? = if i < k ∨ l.length - 1 - k < i then l[l.length - 1 - i]? else l[i]? := by
 induction k generalizing i with
 | zero =>
  rw [if_neg (by omega)]; rfl
 | succ k ih =>
  have h1 := ih (by omega) k (by omega)
  have h2 := ih (by omega) (l.length - 1 - k) (by omega)
  rw [if_neg (by omega)] at h1 h2
  have g1 : (revK l k).getD k (0, 0) = (l[k]?).getD (0, 0) := by rw [List.getD, h1]
  have g2 : (revK l k).getD (l.length - 1 - k) (0, 0) = (l[l.length - 1 - k]?).getD (0, 0) := by rw [List.getD, h2]
  have ek : l[k]? = some ((l[k]?).getD (0, 0)) := by rw [List.getElem?_eq_getElem (by omega)]; rfl
  have ej : l[l.length - 1 - k]? = some ((l[l.length - 1 - k]?).getD (0, 0)) := by rw [List.getElem?_eq_getElem (by omega)]; rfl
  unfold revK
  rw [List.getElem?_set, List.getElem?_set, g1, g2]
  simp only [List.length_set, revK_len]
  by_cases c1 : l.length - 1 - k = i
  ·subst c1
   rw [if_pos rfl, if_pos hi, if_pos (by omega), ← ek]
   congr 1; omega
  ·rw [if_neg c1]
   by_cases c2 : k = i
   ·subst c2
    rw [if_pos rfl, if_pos hi, if_pos (by omega), ← ej]
   ·rw [if_neg c2, ih (by omega) i hi]
    by_cases c3 : i < k ∨ l.length - 1 - k < i
    ·rw [if_pos c3, if_pos (by omega)]
    ·rw [if_neg c3, if_neg (by omega)]
theorem rev_nil (w : World) : Calls Tryz.prog 225 #[.slice none 0 0] w fun e w' => e = .returned (.tuple #[]) ∧ w = w' := by
 have u1 : IntKind.i64.wrap (0 - 1) = -1 := by rw [IntKind.wrap_i64]; rfl
 go_enter Tryz.func225, Tryz.ntmps225
 go_wp2
 refine wp_loop_rounds 1 ?_
 rw [rounds_succ]
 go_wp2
 go_end0
 exact ⟨rfl, rfl⟩

theorem ints_lt2 {w : World} {B g n cap sz : Nat} {e : TypeId} {xs : List Value} (h : w.ownsRow B e sz (.slice (some ⟨g, 0, none⟩) n cap) n xs) : g < w.heap.size := (h.lt g rfl).2

theorem rev_any (l : List Pc) (g cap : Nat) (w : World) (hn : 0 < l.length) (hn2 : l.length ≤ 1000000) (hx : w.ownsRow 0 55 2 (.slice (some ⟨g, 0, none⟩) l.length cap) l.length (pcs l)) :
  Calls Tryz.prog 225 #[.slice (some ⟨g, 0, none⟩) l.length cap] w fun e w' => e = .returned (.tuple #[]) ∧ w'.ownsRow 0 55 2 (.slice (some ⟨g, 0, none⟩) l.length cap) l.length (pcs l.reverse) ∧ w.grownBy w' (some g) := by
 obtain ⟨n, hN⟩ : ∃ n, l.length = n + 1 := ⟨l.length - 1, by omega⟩
 have HN := Lib.hid hN
 have u1 : IntKind.i64.wrap ((n : Int) + 1 - 1) = n := by rw [IntKind.wrap_i64]; omega
 have u2 : wrap64 (n : Int) = n := IntWalk.wrap64_in _ (by omega)
 rw [hN] at hx hn hn2 ⊢
 clear hN
 go_enter Tryz.func225, Tryz.ntmps225
 go_wp2
 go_loopw [2, 3] (fun i j wr => ∃ k : Nat, 2 * k ≤ n + 1 ∧ i = .int .i64 k ∧ j = .int .i64 ((n - k : Nat) : Int) ∧ wr.ownsRow 0 55 2 (.slice (some ⟨g, 0, none⟩) (n + 1) cap) (n + 1) (pcs (revK l k)) ∧ w.grownBy wr (some g)) (fun i j _ => n - (intOf i).toNat)
 case atStart => exact ⟨0, by omega, rfl, by simp, hx, grown_of_below (Below.refl _ _) _⟩
 case round =>
  obtain ⟨k, hk, rfl, rfl, hO, hG⟩ := hrel
  have hle : ((n - k : Nat) : Int) = (n : Int) - k := by omega
  by_cases hlt : 2 * k < n
  ·have hll : (revK l k).length = n + 1 := by rw [revK_len]; exact HN.out
   have h1 : (revK l k)[k]? = some ((revK l k).getD k (0, 0)) := by rw [List.getD, List.getElem?_eq_getElem (by omega)]; rfl
   have h2 : (revK l k)[n - k]? = some ((revK l k).getD (n - k) (0, 0)) := by rw [List.getD, List.getElem?_eq_getElem (by omega)]; rfl
   have hrs : revK l (k + 1) = ((revK l k).set k ((revK l k).getD (n - k) (0, 0))).set (n - k) ((revK l k).getD k (0, 0)) := by
    rw [revK, HN.out, show n + 1 - 1 - k = n - k by omega]
   generalize (revK l k).getD k (0, 0) = p at *
   generalize (revK l k).getD (n - k) (0, 0) = q at *
   obtain ⟨m, hm⟩ : ∃ m, n - k = m := ⟨_, rfl⟩
   rw [hm] at h2 hrs hle ⊢
   obtain ⟨a1, a2⟩ := pcs_at _ _ _ h1
   obtain ⟨b1, b2⟩ := pcs_at _ _ _ h2
   have c1 := (hO.cellAt (k * 2) (by omega)).trans a1
   have c2 := (hO.cellAt (k * 2 + 1) (by omega)).trans a2
   have d1 := (hO.cellAt (m * 2) (by omega)).trans b1
   have d2 := (hO.cellAt (m * 2 + 1) (by omega)).trans b2
   have hlg := ints_lt2 hO
   have HRS := Lib.hid hrs; have HLE := Lib.hid hle
   have hkm : (k : Int) < (m : Int) := by omega
   have hmn : m < n + 1 := by omega
   have hkn : k < n + 1 := by omega
   have hkm2 : k < m := by omega
   clear h1 h2 hrs hle hm
   go_wp2_with fail
   refine wp_region_mixA wr.heap.size [0, 1, 2, 3, 4, 5, 6, 7, 8, 9, 10, 11] [12, 13, 14, 15] (by kernel_rfl) (by kernel_rfl) rfl ?_
   simp only [opsAt, List.map_cons, List.map_nil, List.getElem?_toArray, List.getElem?_cons_zero, List.getElem?_cons_succ, Option.getD_some]
   have zc1 := fun k : After wr.heap.size wr => k.cell (hlg) c1
   have zc2 := fun k : After wr.heap.size wr => k.cell (hlg) c2
   have zd1 := fun k : After wr.heap.size wr => k.cell (hlg) d1
   have zd2 := fun k : After wr.heap.size wr => k.cell (hlg) d2
   repeat (go_big_quiet_step (fail))
   refine wpQuiet_nil ?_
   intro kk
   unfold calmQ
   have kb := kk.h
   clear zc1 zc2 zd1 zd2
   obtain ⟨w2, hw1⟩ : ∃ w2, kk.w = w2 := ⟨_, rfl⟩
   rw [hw1] at kb
   rw [hw1]
   clear hw1
   have hO2 := hO.kept (grown_of_below kb none) (by simp [Value.ownBlock])
   have c1' := (kb.cell (p := ⟨g, k * 2, none⟩) hlg).trans c1
   have c2' := (kb.cell (p := ⟨g, k * 2 + 1, none⟩) hlg).trans c2
   have d1' := (kb.cell (p := ⟨g, m * 2, none⟩) hlg).trans d1
   have d2' := (kb.cell (p := ⟨g, m * 2 + 1, none⟩) hlg).trans d2
   have f1 := fun j => hO2.frozenAt j
   clear c1 c2 d1 d2 a1 a2 b1 b2
   go_wp2_with fail
   go_roundw
   case rel =>
    have hm := HLE.out
    have h1 := hO2.stored (k * 2) (.int .i64 q.1)
    have h2 := h1.1.stored (k * 2 + 1) (.int .u64 q.2)
    have h3 := h2.1.stored (m * 2) (.int .i64 p.1)
    have h4 := h3.1.stored (m * 2 + 1) (.int .u64 p.2)
    have hown := h4.1
    rw [pcs_set, pcs_set, ← HRS.out] at hown
    exact ⟨k + 1, by omega, by go_num, by congr 1; omega, hown, grown_trans (grown_trans (grown_trans (grown_trans (grown_below hG kb hG.size) h1.2) h2.2) h3.2) h4.2⟩
   case measure => simp [intOf]; omega
  ·have hle2 : ¬ ((k : Int) < ((n - k : Nat) : Int)) := by omega
   go_wp2
   go_end0
   have e : revK l k = l.reverse := by
    have h1 := HN.out
    apply List.ext_getElem?
    intro i
    by_cases hi : i < l.length
    ·rw [revK_at l _ (by omega) i hi, List.getElem?_reverse hi]
     by_cases c : i < k ∨ l.length - 1 - k < i
     ·rw [if_pos c]
     ·rw [if_neg c]
      congr 1
      omega
    ·rw [List.getElem?_eq_none (by rw [revK_len]; omega), List.getElem?_eq_none (by simp; omega)]
   rw [e] at hO
   exact ⟨rfl, hO, hG⟩
end Go.Proofs.YtbhppbeepmllaaaGreatDoor
