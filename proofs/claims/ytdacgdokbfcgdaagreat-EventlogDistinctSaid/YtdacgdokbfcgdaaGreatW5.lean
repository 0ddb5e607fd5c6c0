/-
  Contracts of the reference's machine: system instructions.
  Contracts of the reference's machine: branches and jumps.
-/
import Derived.Test.YtdacgdokbfcgdaaGreatW3
import Derived.Test.YtdacgdokbfcgdaaGreatW4
import Derived.Deep.CutBlock
import Derived.Deep.DeepCutAuto
import Derived.RegionTactic
import Derived.BigRegion
set_option linter.unusedVariables false
set_option linter.unusedSimpArgs false
set_option maxRecDepth 100000
namespace Go.Proofs.YtdacgdokbfcgdaaGreat
open Go.RowKit Go.BigFrame Go.Sort Go.Lib
namespace Ma
theorem uEff : ∃ fs, Tryz.prog.underlying 173 = some (.struct fs) := ⟨_, Tryz.underlying173⟩
theorem sEff : (Tryz.prog.info? 173).map (·.size) = some 4 := by kernel_rfl
theorem load_eff {w : World} {b : Nat} {y0 y1 y2 y3 : Value} {t : TypeId} (h : w.heap[b]? = some (.cells #[y0, y1, y2, y3] t (0, 0))) : (loadVar 173 ⟨b, 0, none⟩).run Tryz.prog w = .ok (.agg #[y0, y1, y2, y3]) w := by
  obtain ⟨fs, hu⟩ := uEff
  exact Big.run_load (P := Tryz.prog) w b 0 4 t 173 #[y0, y1, y2, y3] (0, 0) _ h hu rfl sEff (by simp) [y0, y1, y2, y3] rfl
theorem res_cc {fn : Func} {tmps : Array Value} {w : World} {a a2 b b2 : Nat} {t t2 : TypeId} {v v2 : Value} (hr : fn.results = #[.cell a t, .cell a2 t2]) (ha : tmps.getD a undef = .pointer (some ⟨b, 0, none⟩)) (ha2 : tmps.getD a2 undef = .pointer (some ⟨b2, 0, none⟩))
    (hl : (loadVar t ⟨b, 0, none⟩).run Tryz.prog w = .ok v w) (hl2 : (loadVar t2 ⟨b2, 0, none⟩).run Tryz.prog w = .ok v2 w) : (results fn tmps).run Tryz.prog w = .ok (.tuple #[v, v2]) w := by
  unfold results
  rw [hr]
  simp only [List.mapM_toArray, List.mapM_cons, List.mapM_nil, ha, ha2, asAddr, pure_bind, Sem.run_bind, Sem.run_map, hl, hl2, Result.andThen_ok, Sem.run_pure, map_pure]
  rfl
abbrev inV (op a b c : Nat) (i : Int) : Value := .agg #[.int .i64 (op : Int), .int .i64 (a : Int), .int .i64 (b : Int), .int .i64 (c : Int), .int .i32 i]
abbrev z4 : Array Value := #[.int .i64 0, .int .i64 0, .int .i64 0, .int .u32 0]
theorem z4_one : ∀ v ∈ z4.toList, v.oneCell' = true := by
  intro v hv
  simp at hv
  rcases hv with rfl | rfl <;> rfl
/-- What an instruction leaves: the registers, an effect (of kind k, if k is given). -/
def EffTo (kk : Option Int) (w : World) (e : Ending) (w' : World) : Prop := ∃ (L' : List Int) (k p r : Int) (v : Int), e = .returned (.tuple #[.agg (wA L'), .agg #[.int .i64 k, .int .i64 p, .int .i64 r, .int .u32 v]]) ∧ CpuOK L' ∧ Held w w' ∧ (∀ z, kk = some z → k = z) ∧ 0 ≤ r ∧ r ≤ 15 ∧ Wd v

set_option maxHeartbeats 4000000 in
theorem system_ecall (a b c : Nat) (i : Int) (L : List Int) (hL : CpuOK L) (w : World) : Calls Tryz.prog 118 #[.agg (wA L), inV 56 a b c i] w (EffTo none w) := by
  have HT := Lib.hid fun w => trap_any L 7 0 hL (by decide) w
  unfold CpuTo at HT
  have HTO := Lib.hid (trapL_ok hL (cause := 7) (bad := 0) ⟨by decide, by decide⟩ ⟨by decide, by decide⟩)
  generalize trapL L 7 0 = T at *
  have HZ : Is (wA L).size 25 := ⟨by rw [wA_size]; exact hL.len⟩
  have M0 := Lib.hid ((((((Mem.start w).alloc (wA L) 44).alloc' (b := w.heap.size + 1) (by simp) #[.int .i64 56, .int .i64 (a : Int), .int .i64 (b : Int), .int .i64 (c : Int), .int .i32 i] 123).alloc' (b := w.heap.size + 1 + 1) (by simp) z25 44).alloc' (b := w.heap.size + 1 + 1 + 1) (by simp) z4 173).alloc' (b := w.heap.size + 1 + 1 + 1 + 1) (by simp) z4 173)
  simp only [List.cons_append, List.nil_append] at M0
  generalize wA L = cA at *
  clear hL
  unfold EffTo
  go_enter Tryz.func118, Tryz.ntmps118
  go_upto_region 4 with fail
  refine Tl.start 5 (fun w' => w'.heap[w.heap.size]? = some (.cells cA 44 (0, 0)) ∧ w'.heap[w.heap.size + 1 + 1 + 1 + 1]? = some (.cells z4 173 (0, 0))) (by kernel_rfl) (⟨M0.out.drew.blk 0 rfl, M0.out.drew.blk 4 rfl⟩) (fun hHeld => ?_)
  refine Tl.ty 0 (⟨some 11, .load 44 (.tmp 2), 44, "cpu.go:435", #[], none⟩ : Oper) (.agg cA) rfl (Big.yields_load 44 rfl rfl rfl (fun w' h => h.1) uCpu (by rw [HZ.out]; exact sCpu)) (by assumption) ?_
  try simp only [Act.put, Tl.p2, Tl.p3, Tl.p4]
  refine Tl.ty 2 (⟨some 13, .load 173 (.tmp 6), 173, "cpu.go:435", #[⟨3, .gcOnly .lateStores⟩], none⟩ : Oper) (.agg z4) rfl (Big.yields_load 173 rfl rfl rfl (fun w' h => h.2) uEff sEff) (by assumption) ?_
  try simp only [Act.put, Tl.p2, Tl.p3, Tl.p4]
  refine Tl.step (i := 1) (o := (⟨some 12, .call { callee := .value (.func 114), args := #[.tmp 11, .const (.int .i64 7), .const (.int .u32 0)], argTypes := #[44, 3, 40] }, 44, "cpu.go:435", #[⟨0, .data⟩], none⟩ : Oper)) (by kernel_rfl) rfl (fun K hK => ?_)
  go_simp
  go_at_call 114
  refine (HT.out _).mono ?_
  rintro e w3 ⟨rfl, h3⟩
  have HOK := Lib.hid (HTO.out)
  have M3 := Lib.hid (M0.out.drew.keep h3)
  clear h3
  dsimp only
  refine hK.out _ _ (⟨M3.out.blk 0 rfl, M3.out.blk 4 rfl⟩) (fun hHeld => ?_)
  clear hK K
  try simp only [Act.put, Tl.p2, Tl.p3, Tl.p4]
  refine Tl.step (i := 3) (o := (⟨none, .store 44 (.tmp 4) (.tmp 12), 0, "cpu.go:435", #[⟨1, .data⟩, ⟨1, .chain⟩, ⟨0, .phase⟩, ⟨1, .phase⟩, ⟨2, .textOnly .lateStores⟩], none⟩ : Oper)) (by kernel_rfl) rfl (fun K hK => ?_)
  refine Mem.step_storeAll 44 rfl rfl rfl rfl 2 M3.out rfl (by rw [wA_size, HOK.out.len]; exact sCpu) (by rw [wA_size, HOK.out.len]; rfl) (wA_one _) ?_
  intro w4 M4'
  have M4 := Lib.hid M4'
  clear M4'
  refine hK.out _ _ (⟨M4.out.blk 0 rfl, M4.out.blk 4 rfl⟩) (fun hHeld => ?_)
  clear hK K
  try simp only [Act.put, Tl.p2, Tl.p3, Tl.p4]
  refine Tl.step (i := 4) (o := (⟨none, .store 173 (.tmp 5) (.tmp 13), 0, "cpu.go:435", #[⟨2, .data⟩, ⟨3, .chain⟩, ⟨0, .phase⟩, ⟨1, .phase⟩, ⟨2, .phase⟩, ⟨3, .phase⟩], none⟩ : Oper)) (by kernel_rfl) rfl (fun K hK => ?_)
  refine Mem.step_storeAll 173 rfl rfl rfl rfl 3 M4.out rfl sEff rfl z4_one ?_
  intro w5 M5'
  have M5 := Lib.hid M5'
  clear M5'
  refine hK.out _ _ (⟨M5.out.blk 0 rfl, M5.out.blk 4 rfl⟩) (fun hHeld => ?_)
  clear hK K
  try simp only [Act.put, Tl.p2, Tl.p3, Tl.p4]
  refine Tl.done (by kernel_rfl) ?_ _
  go_wp2
  refine bodyPost_ret (res_cc Tryz.results118 rfl rfl (load_w (by rw [wA_size, HOK.out.len]) (M5.out.blk 2 rfl)) (load_eff (M5.out.blk 3 rfl))) rfl ?_
  exact ⟨_, _, _, _, _, rfl, HOK.out, M5.out.held, (fun _ h => by cases h), by decide, by decide, by decide, by decide⟩
set_option maxHeartbeats 4000000 in
theorem system_eret (a b c : Nat) (i : Int) (L : List Int) (hL : CpuOK L) (w : World) : Calls Tryz.prog 118 #[.agg (wA L), inV 57 a b c i] w (EffTo none w) := by
  have HT := Lib.hid fun w => return_any L hL w
  unfold CpuSome at HT
  have HZ : Is (wA L).size 25 := ⟨by rw [wA_size]; exact hL.len⟩
  have M0 := Lib.hid ((((((Mem.start w).alloc (wA L) 44).alloc' (b := w.heap.size + 1) (by simp) #[.int .i64 57, .int .i64 (a : Int), .int .i64 (b : Int), .int .i64 (c : Int), .int .i32 i] 123).alloc' (b := w.heap.size + 1 + 1) (by simp) z25 44).alloc' (b := w.heap.size + 1 + 1 + 1) (by simp) z4 173).alloc' (b := w.heap.size + 1 + 1 + 1 + 1) (by simp) z4 173)
  simp only [List.cons_append, List.nil_append] at M0
  generalize wA L = cA at *
  clear hL
  unfold EffTo
  go_enter Tryz.func118, Tryz.ntmps118
  go_upto_region 6 with fail
  refine Tl.start 5 (fun w' => w'.heap[w.heap.size]? = some (.cells cA 44 (0, 0)) ∧ w'.heap[w.heap.size + 1 + 1 + 1 + 1]? = some (.cells z4 173 (0, 0))) (by kernel_rfl) (⟨M0.out.drew.blk 0 rfl, M0.out.drew.blk 4 rfl⟩) (fun hHeld => ?_)
  refine Tl.ty 0 (⟨some 16, .load 44 (.tmp 2), 44, "cpu.go:437", #[], none⟩ : Oper) (.agg cA) rfl (Big.yields_load 44 rfl rfl rfl (fun w' h => h.1) uCpu (by rw [HZ.out]; exact sCpu)) (by assumption) ?_
  try simp only [Act.put, Tl.p2, Tl.p3, Tl.p4]
  refine Tl.ty 2 (⟨some 18, .load 173 (.tmp 6), 173, "cpu.go:437", #[⟨3, .gcOnly .lateStores⟩], none⟩ : Oper) (.agg z4) rfl (Big.yields_load 173 rfl rfl rfl (fun w' h => h.2) uEff sEff) (by assumption) ?_
  try simp only [Act.put, Tl.p2, Tl.p3, Tl.p4]
  refine Tl.step (i := 1) (o := (⟨some 17, .call { callee := .value (.func 150), args := #[.tmp 16], argTypes := #[44] }, 44, "cpu.go:437", #[⟨0, .data⟩], none⟩ : Oper)) (by kernel_rfl) rfl (fun K hK => ?_)
  go_simp
  go_at_call 150
  refine (HT.out _).mono ?_
  rintro e w3 ⟨T, rfl, hT, h3⟩
  have HOK := Lib.hid (hT)
  have M3 := Lib.hid (M0.out.drew.keep h3)
  clear h3
  dsimp only
  refine hK.out _ _ (⟨M3.out.blk 0 rfl, M3.out.blk 4 rfl⟩) (fun hHeld => ?_)
  clear hK K
  try simp only [Act.put, Tl.p2, Tl.p3, Tl.p4]
  refine Tl.step (i := 3) (o := (⟨none, .store 44 (.tmp 4) (.tmp 17), 0, "cpu.go:437", #[⟨1, .data⟩, ⟨1, .chain⟩, ⟨0, .phase⟩, ⟨1, .phase⟩, ⟨2, .textOnly .lateStores⟩], none⟩ : Oper)) (by kernel_rfl) rfl (fun K hK => ?_)
  refine Mem.step_storeAll 44 rfl rfl rfl rfl 2 M3.out rfl (by rw [wA_size, HOK.out.len]; exact sCpu) (by rw [wA_size, HOK.out.len]; rfl) (wA_one _) ?_
  intro w4 M4'
  have M4 := Lib.hid M4'
  clear M4'
  refine hK.out _ _ (⟨M4.out.blk 0 rfl, M4.out.blk 4 rfl⟩) (fun hHeld => ?_)
  clear hK K
  try simp only [Act.put, Tl.p2, Tl.p3, Tl.p4]
  refine Tl.step (i := 4) (o := (⟨none, .store 173 (.tmp 5) (.tmp 18), 0, "cpu.go:437", #[⟨2, .data⟩, ⟨3, .chain⟩, ⟨0, .phase⟩, ⟨1, .phase⟩, ⟨2, .phase⟩, ⟨3, .phase⟩], none⟩ : Oper)) (by kernel_rfl) rfl (fun K hK => ?_)
  refine Mem.step_storeAll 173 rfl rfl rfl rfl 3 M4.out rfl sEff rfl z4_one ?_
  intro w5 M5'
  have M5 := Lib.hid M5'
  clear M5'
  refine hK.out _ _ (⟨M5.out.blk 0 rfl, M5.out.blk 4 rfl⟩) (fun hHeld => ?_)
  clear hK K
  try simp only [Act.put, Tl.p2, Tl.p3, Tl.p4]
  refine Tl.done (by kernel_rfl) ?_ _
  go_wp2
  refine bodyPost_ret (res_cc Tryz.results118 rfl rfl (load_w (by rw [wA_size, HOK.out.len]) (M5.out.blk 2 rfl)) (load_eff (M5.out.blk 3 rfl))) rfl ?_
  exact ⟨_, _, _, _, _, rfl, HOK.out, M5.out.held, (fun _ h => by cases h), by decide, by decide, by decide, by decide⟩
set_option maxHeartbeats 4000000 in
theorem system_csrr (a b c k : Nat) (ha : a ≤ 15) (hk : k ≤ 7) (L : List Int) (hL : CpuOK L) (w : World) : Calls Tryz.prog 118 #[.agg (wA L), inV 58 a b c (k : Int)] w (EffTo none w) := by
  have hx := hL.at_ (17 + k)
  have ck := wA_at (L := L) (j := 17 + k) (by rw [hL.len]; omega)
  obtain ⟨x, hxe⟩ : ∃ x, L.getD (17 + k) 0 = x := ⟨_, rfl⟩
  rw [hxe] at ck hx
  have HT := Lib.hid fun w => set_any L a x hL ha w
  unfold CpuTo at HT
  have HTO := Lib.hid (setR_ok hL a hx)
  generalize setR L a x = T at *
  have z1 : (k : Int) < 8 := by omega
  have z2 : (0 : Int) ≤ k := by omega
  have HZ : Is (wA L).size 25 := ⟨by rw [wA_size]; exact hL.len⟩
  have M0 := Lib.hid ((((((Mem.start w).alloc (wA L) 44).alloc' (b := w.heap.size + 1) (by simp) #[.int .i64 58, .int .i64 (a : Int), .int .i64 (b : Int), .int .i64 (c : Int), .int .i32 (k : Int)] 123).alloc' (b := w.heap.size + 1 + 1) (by simp) z25 44).alloc' (b := w.heap.size + 1 + 1 + 1) (by simp) z4 173).alloc' (b := w.heap.size + 1 + 1 + 1 + 1) (by simp) z4 173)
  simp only [List.cons_append, List.nil_append] at M0
  generalize wA L = cA at *
  clear hL hxe hx ha hk
  unfold EffTo
  have HC := Lib.hid fun (w' : World) (h : w'.heap[w.heap.size]? = some (.cells cA 44 (0, 0))) => Bx.cell h (17 + k) ck
  have HI := Lib.hid fun (w' : World) (h : w'.heap[w.heap.size + 1]? = some (.cells #[.int .i64 58, .int .i64 (a : Int), .int .i64 (b : Int), .int .i64 (c : Int), .int .i32 (k : Int)] 123 (0, 0))) => (⟨Bx.cell h 1 rfl, Bx.cell h 4 rfl⟩ : _ ∧ _)
  go_enter Tryz.func118, Tryz.ntmps118
  go_upto_region 8 with fail
  refine Tl.start 9 (fun w' => w'.heap[w.heap.size]? = some (.cells cA 44 (0, 0)) ∧ w'.cell? ⟨w.heap.size, 17 + k, none⟩ = some (.int .u32 x) ∧ w'.cell? ⟨w.heap.size + 1, 1, none⟩ = some (.int .i64 (a : Int)) ∧ w'.cell? ⟨w.heap.size + 1, 4, none⟩ = some (.int .i32 (k : Int))) (by kernel_rfl) (⟨M0.out.drew.blk 0 rfl, HC.out _ (M0.out.drew.blk 0 rfl), HI.out _ (M0.out.drew.blk 1 rfl)⟩) (fun hHeld => ?_)
  refine Tl.ty 0 (⟨some 21, .load 44 (.tmp 2), 44, "cpu.go:439", #[], none⟩ : Oper) (.agg cA) rfl (Big.yields_load 44 rfl rfl rfl (fun w' h => h.1) uCpu (by rw [HZ.out]; exact sCpu)) (by assumption) ?_
  try simp only [Act.put, Tl.p2, Tl.p3, Tl.p4]
  refine Tl.tf 1 (⟨some 22, .fieldAddr 123 (.tmp 3) 1, 0, "cpu.go:439", #[], none⟩ : Oper) ?v6 rfl ?hy6 (by assumption) ?_
  case hy6 => (intro w; go_simp; all_goals (with_reducible rfl))
  try simp only [Act.put, Tl.p2, Tl.p3, Tl.p4]
  refine Tl.tk 2 (⟨some 23, .load 3 (.tmp 22), 3, "cpu.go:439", #[⟨1, .data⟩], none⟩ : Oper) ?v7 rfl ?hy7 (by assumption) ?_
  case hy7 => (intro w hSw; (try dsimp only at hSw); go_simp; all_goals (with_reducible rfl))
  try simp only [Act.put, Tl.p2, Tl.p3, Tl.p4]
  refine Tl.tf 3 (⟨some 24, .fieldAddr 123 (.tmp 3) 4, 0, "cpu.go:439", #[], none⟩ : Oper) ?v8 rfl ?hy8 (by assumption) ?_
  case hy8 => (intro w; go_simp; all_goals (with_reducible rfl))
  try simp only [Act.put, Tl.p2, Tl.p3, Tl.p4]
  refine Tl.tk 4 (⟨some 25, .load 21 (.tmp 24), 21, "cpu.go:439", #[⟨3, .data⟩], none⟩ : Oper) ?v9 rfl ?hy9 (by assumption) ?_
  case hy9 => (intro w hSw; (try dsimp only at hSw); go_simp; all_goals (with_reducible rfl))
  try simp only [Act.put, Tl.p2, Tl.p3, Tl.p4]
  refine Tl.tf 5 (⟨some 26, .fieldAddr 44 (.tmp 2) 2, 0, "cpu.go:439", #[], none⟩ : Oper) ?v10 rfl ?hy10 (by assumption) ?_
  case hy10 => (intro w; go_simp; all_goals (with_reducible rfl))
  try simp only [Act.put, Tl.p2, Tl.p3, Tl.p4]
  refine Tl.tf 6 (⟨some 27, .indexAddr 42 (.tmp 26) (.tmp 25), 0, "cpu.go:439", #[⟨5, .data⟩, ⟨4, .data⟩], none⟩ : Oper) ?v11 rfl ?hy11 (by assumption) ?_
  case hy11 => (intro w; go_simp; all_goals (with_reducible rfl))
  try simp only [Act.put, Tl.p2, Tl.p3, Tl.p4]
  refine Tl.tk 7 (⟨some 28, .load 40 (.tmp 27), 40, "cpu.go:439", #[⟨6, .data⟩], none⟩ : Oper) ?v12 rfl ?hy12 (by assumption) ?_
  case hy12 => (intro w hSw; (try dsimp only at hSw); go_simp; all_goals (with_reducible rfl))
  try simp only [Act.put, Tl.p2, Tl.p3, Tl.p4]
  refine Tl.step (i := 8) (o := (⟨some 29, .call { callee := .value (.func 95), args := #[.tmp 21, .tmp 23, .tmp 28], argTypes := #[44, 3, 40] }, 44, "cpu.go:439", #[⟨0, .data⟩, ⟨2, .data⟩, ⟨7, .data⟩], none⟩ : Oper)) (by kernel_rfl) rfl (fun K hK => ?_)
  go_simp
  go_at_call 95
  refine (HT.out _).mono ?_
  rintro e w3 ⟨rfl, h3⟩
  have M3 := Lib.hid (M0.out.drew.keep h3)
  clear h3
  dsimp only
  refine hK.out _ _ (⟨M3.out.blk 0 rfl, HC.out _ (M3.out.blk 0 rfl), HI.out _ (M3.out.blk 1 rfl)⟩) (fun hHeld => ?_)
  clear hK K
  try simp only [Act.put, Tl.p2, Tl.p3, Tl.p4]
  refine Tl.stepN (i := 9) (o := (⟨none, .store 44 (.tmp 2) (.tmp 29), 0, "cpu.go:439", #[⟨8, .data⟩, ⟨8, .chain⟩, ⟨0, .phase⟩, ⟨1, .phase⟩, ⟨2, .phase⟩, ⟨3, .phase⟩, ⟨4, .phase⟩, ⟨5, .phase⟩, ⟨6, .phase⟩, ⟨7, .phase⟩, ⟨8, .phase⟩], none⟩ : Oper)) (by kernel_rfl) (by kernel_rfl) rfl (fun K hK => ?_)
  refine Mem.step_storeAll 44 rfl rfl rfl rfl 0 M3.out rfl (by rw [wA_size, HTO.out.len]; exact sCpu) (by rw [wA_size, HTO.out.len, HZ.out]) (wA_one _) ?_
  intro w4 M4'
  have M4 := Lib.hid M4'
  clear M4'
  refine hK.out _ _ ?_
  clear hK K
  try simp only [Act.put, Tl.p2, Tl.p3, Tl.p4]
  refine Tl.done (by kernel_rfl) ?_ _
  (try simp only [List.set_cons_zero, List.set_cons_succ] at M4)
  have d16 := M4.out.cell 0 rfl 16 (wA_at (by rw [HTO.out.len]; decide))
  have e16 := M4.out.free 0 rfl 16
  have hpw := HTO.out.at_ 16
  obtain ⟨p, hp⟩ : ∃ p, List.getD T 16 0 = p := ⟨_, rfl⟩
  rw [hp] at d16 hpw
  (try rw [hp] at c16)
  clear hp
  have HOKt := Lib.hid (HTO.out.set (j := 16) (mod_wd (p + 4)))
  have M7 := M4.out.put 0 rfl 16 (.int .u32 ((p + 4) % 4294967296))
  rw [wA_set] at M7
  have M8 := Lib.hid M7
  clear M7
  simp only [List.set_cons_zero, List.set_cons_succ] at M8
  go_upto_region 22 with fail
  refine Tl.start 3 (fun w' => w'.heap[w.heap.size]? = some (.cells (wA (T.set 16 ((p + 4) % 4294967296))) 44 (0, 0)) ∧ w'.heap[w.heap.size + 1 + 1 + 1 + 1]? = some (.cells z4 173 (0, 0))) (by kernel_rfl) (⟨M8.out.drew.blk 0 rfl, M8.out.drew.blk 4 rfl⟩) (fun hHeld => ?_)
  refine Tl.ty 0 (⟨some 74, .load 44 (.tmp 2), 44, "cpu.go:454", #[], none⟩ : Oper) (.agg (wA (T.set 16 ((p + 4) % 4294967296)))) rfl (Big.yields_load 44 rfl rfl rfl (fun w' h => h.1) uCpu (by rw [wA_size, HOKt.out.len]; exact sCpu)) (by assumption) ?_
  try simp only [Act.put, Tl.p2, Tl.p3, Tl.p4]
  refine Tl.ty 1 (⟨some 75, .load 173 (.tmp 6), 173, "cpu.go:454", #[⟨2, .gcOnly .lateStores⟩], none⟩ : Oper) (.agg z4) rfl (Big.yields_load 173 rfl rfl rfl (fun w' h => h.2) uEff sEff) (by assumption) ?_
  try simp only [Act.put, Tl.p2, Tl.p3, Tl.p4]
  refine Tl.step (i := 2) (o := (⟨none, .store 44 (.tmp 4) (.tmp 74), 0, "cpu.go:454", #[⟨0, .data⟩, ⟨0, .phase⟩, ⟨1, .textOnly .lateStores⟩], none⟩ : Oper)) (by kernel_rfl) rfl (fun K hK => ?_)
  refine Mem.step_storeAll 44 rfl rfl rfl rfl 2 M8.out.drew rfl (by rw [wA_size, HOKt.out.len]; exact sCpu) (by rw [wA_size, HOKt.out.len]; rfl) (wA_one _) ?_
  intro w8 M9'
  have M9 := Lib.hid M9'
  clear M9'
  refine hK.out _ _ (⟨M9.out.blk 0 rfl, M9.out.blk 4 rfl⟩) (fun hHeld => ?_)
  clear hK K
  try simp only [Act.put, Tl.p2, Tl.p3, Tl.p4]
  refine Tl.stepN (i := 3) (o := (⟨none, .store 173 (.tmp 5) (.tmp 75), 0, "cpu.go:454", #[⟨1, .data⟩, ⟨2, .chain⟩, ⟨0, .phase⟩, ⟨1, .phase⟩, ⟨2, .phase⟩], none⟩ : Oper)) (by kernel_rfl) (by kernel_rfl) rfl (fun K hK => ?_)
  refine Mem.step_storeAll 173 rfl rfl rfl rfl 3 M9.out rfl sEff rfl (z4_one) ?_
  intro w9 M10'
  have M10 := Lib.hid M10'
  clear M10'
  refine hK.out _ _ ?_
  clear hK K
  try simp only [Act.put, Tl.p2, Tl.p3, Tl.p4]
  refine Tl.done (by kernel_rfl) ?_ _
  go_wp2
  refine bodyPost_ret (res_cc Tryz.results118 rfl rfl (load_w (by rw [wA_size, HOKt.out.len]) (M10.out.blk 2 rfl)) (load_eff (M10.out.blk 3 rfl))) rfl ?_
  exact ⟨_, _, _, _, _, rfl, HOKt.out, M10.out.held, (fun _ h => by cases h), by decide, by decide, ⟨by decide, by decide⟩⟩
set_option maxHeartbeats 4000000 in
theorem system_csrw (a b c k : Nat) (ha : a ≤ 15) (hk : k ≤ 7) (L : List Int) (hL : CpuOK L) (w : World) : Calls Tryz.prog 118 #[.agg (wA L), inV 59 a b c (k : Int)] w (EffTo none w) := by
  have hx := hL.at_ a
  have ck := wA_at (L := L) (j := a) (by rw [hL.len]; omega)
  obtain ⟨x, hxe⟩ : ∃ x, L.getD a 0 = x := ⟨_, rfl⟩
  rw [hxe] at ck hx
  have HT := Lib.hid fun w => write_any L k x hL hx hk w
  unfold CpuSome at HT
  have z1 : (a : Int) < 16 := by omega
  have z2 : (0 : Int) ≤ a := by omega
  have z3 : (k : Int) ≤ 7 := by omega
  have z4' : (0 : Int) ≤ k := by omega
  have z5 : IntKind.i64.wrap (k : Int) = k := IntWalk.i64_in _ ⟨by omega, by omega⟩
  have HZ : Is (wA L).size 25 := ⟨by rw [wA_size]; exact hL.len⟩
  have M0 := Lib.hid ((((((Mem.start w).alloc (wA L) 44).alloc' (b := w.heap.size + 1) (by simp) #[.int .i64 59, .int .i64 (a : Int), .int .i64 (b : Int), .int .i64 (c : Int), .int .i32 (k : Int)] 123).alloc' (b := w.heap.size + 1 + 1) (by simp) z25 44).alloc' (b := w.heap.size + 1 + 1 + 1) (by simp) z4 173).alloc' (b := w.heap.size + 1 + 1 + 1 + 1) (by simp) z4 173)
  simp only [List.cons_append, List.nil_append] at M0
  generalize wA L = cA at *
  clear hL hxe hx ha hk
  unfold EffTo
  have HC := Lib.hid fun (w' : World) (h : w'.heap[w.heap.size]? = some (.cells cA 44 (0, 0))) => Bx.cell h a ck
  have HI := Lib.hid fun (w' : World) (h : w'.heap[w.heap.size + 1]? = some (.cells #[.int .i64 59, .int .i64 (a : Int), .int .i64 (b : Int), .int .i64 (c : Int), .int .i32 (k : Int)] 123 (0, 0))) => (⟨Bx.cell h 1 rfl, Bx.cell h 4 rfl⟩ : _ ∧ _)
  go_enter Tryz.func118, Tryz.ntmps118
  go_upto_region 10 with fail
  refine Tl.start 10 (fun w' => w'.heap[w.heap.size]? = some (.cells cA 44 (0, 0)) ∧ w'.cell? ⟨w.heap.size, a, none⟩ = some (.int .u32 x) ∧ w'.cell? ⟨w.heap.size + 1, 1, none⟩ = some (.int .i64 (a : Int)) ∧ w'.cell? ⟨w.heap.size + 1, 4, none⟩ = some (.int .i32 (k : Int))) (by kernel_rfl) (⟨M0.out.drew.blk 0 rfl, HC.out _ (M0.out.drew.blk 0 rfl), HI.out _ (M0.out.drew.blk 1 rfl)⟩) (fun hHeld => ?_)
  refine Tl.ty 0 (⟨some 32, .load 44 (.tmp 2), 44, "cpu.go:441", #[], none⟩ : Oper) (.agg cA) rfl (Big.yields_load 44 rfl rfl rfl (fun w' h => h.1) uCpu (by rw [HZ.out]; exact sCpu)) (by assumption) ?_
  try simp only [Act.put, Tl.p2, Tl.p3, Tl.p4]
  refine Tl.tf 1 (⟨some 33, .fieldAddr 123 (.tmp 3) 4, 0, "cpu.go:441", #[], none⟩ : Oper) ?v16 rfl ?hy16 (by assumption) ?_
  case hy16 => (intro w; go_simp; all_goals (with_reducible rfl))
  try simp only [Act.put, Tl.p2, Tl.p3, Tl.p4]
  refine Tl.tk 2 (⟨some 34, .load 21 (.tmp 33), 21, "cpu.go:441", #[⟨1, .data⟩], none⟩ : Oper) ?v17 rfl ?hy17 (by assumption) ?_
  case hy17 => (intro w hSw; (try dsimp only at hSw); go_simp; all_goals (with_reducible rfl))
  try simp only [Act.put, Tl.p2, Tl.p3, Tl.p4]
  refine Tl.tf 3 (⟨some 35, .convert 21 3 (.tmp 34), 3, "cpu.go:441", #[⟨2, .data⟩], none⟩ : Oper) ?v18 rfl ?hy18 (by assumption) ?_
  case hy18 => (intro w; go_simp; all_goals (with_reducible rfl))
  try simp only [Act.put, Tl.p2, Tl.p3, Tl.p4]
  refine Tl.tf 4 (⟨some 36, .fieldAddr 123 (.tmp 3) 1, 0, "cpu.go:441", #[], none⟩ : Oper) ?v19 rfl ?hy19 (by assumption) ?_
  case hy19 => (intro w; go_simp; all_goals (with_reducible rfl))
  try simp only [Act.put, Tl.p2, Tl.p3, Tl.p4]
  refine Tl.tk 5 (⟨some 37, .load 3 (.tmp 36), 3, "cpu.go:441", #[⟨4, .data⟩], none⟩ : Oper) ?v20 rfl ?hy20 (by assumption) ?_
  case hy20 => (intro w hSw; (try dsimp only at hSw); go_simp; all_goals (with_reducible rfl))
  try simp only [Act.put, Tl.p2, Tl.p3, Tl.p4]
  refine Tl.tf 6 (⟨some 38, .fieldAddr 44 (.tmp 2) 0, 0, "cpu.go:441", #[], none⟩ : Oper) ?v21 rfl ?hy21 (by assumption) ?_
  case hy21 => (intro w; go_simp; all_goals (with_reducible rfl))
  try simp only [Act.put, Tl.p2, Tl.p3, Tl.p4]
  refine Tl.tf 7 (⟨some 39, .indexAddr 41 (.tmp 38) (.tmp 37), 0, "cpu.go:441", #[⟨6, .data⟩, ⟨5, .data⟩], none⟩ : Oper) ?v22 rfl ?hy22 (by assumption) ?_
  case hy22 => (intro w; go_simp; all_goals (with_reducible rfl))
  try simp only [Act.put, Tl.p2, Tl.p3, Tl.p4]
  refine Tl.tk 8 (⟨some 40, .load 40 (.tmp 39), 40, "cpu.go:441", #[⟨7, .data⟩], none⟩ : Oper) ?v23 rfl ?hy23 (by assumption) ?_
  case hy23 => (intro w hSw; (try dsimp only at hSw); go_simp; all_goals (with_reducible rfl))
  try simp only [Act.put, Tl.p2, Tl.p3, Tl.p4]
  refine Tl.step (i := 9) (o := (⟨some 41, .call { callee := .value (.func 151), args := #[.tmp 32, .tmp 35, .tmp 40], argTypes := #[44, 3, 40] }, 44, "cpu.go:441", #[⟨0, .data⟩, ⟨3, .data⟩, ⟨8, .data⟩], none⟩ : Oper)) (by kernel_rfl) rfl (fun K hK => ?_)
  go_simp
  go_at_call 151
  refine (HT.out _).mono ?_
  rintro e w3 ⟨T, rfl, hT, h3⟩
  have HTO := Lib.hid hT
  have M3 := Lib.hid (M0.out.drew.keep h3)
  clear h3 hT
  dsimp only
  refine hK.out _ _ (⟨M3.out.blk 0 rfl, HC.out _ (M3.out.blk 0 rfl), HI.out _ (M3.out.blk 1 rfl)⟩) (fun hHeld => ?_)
  clear hK K
  try simp only [Act.put, Tl.p2, Tl.p3, Tl.p4]
  refine Tl.stepN (i := 10) (o := (⟨none, .store 44 (.tmp 2) (.tmp 41), 0, "cpu.go:441", #[⟨9, .data⟩, ⟨9, .chain⟩, ⟨0, .phase⟩, ⟨1, .phase⟩, ⟨2, .phase⟩, ⟨3, .phase⟩, ⟨4, .phase⟩, ⟨5, .phase⟩, ⟨6, .phase⟩, ⟨7, .phase⟩, ⟨8, .phase⟩, ⟨9, .phase⟩], none⟩ : Oper)) (by kernel_rfl) (by kernel_rfl) rfl (fun K hK => ?_)
  refine Mem.step_storeAll 44 rfl rfl rfl rfl 0 M3.out rfl (by rw [wA_size, HTO.out.len]; exact sCpu) (by rw [wA_size, HTO.out.len, HZ.out]) (wA_one _) ?_
  intro w4 M4'
  have M4 := Lib.hid M4'
  clear M4'
  refine hK.out _ _ ?_
  clear hK K
  try simp only [Act.put, Tl.p2, Tl.p3, Tl.p4]
  refine Tl.done (by kernel_rfl) ?_ _
  (try simp only [List.set_cons_zero, List.set_cons_succ] at M4)
  have d16 := M4.out.cell 0 rfl 16 (wA_at (by rw [HTO.out.len]; decide))
  have e16 := M4.out.free 0 rfl 16
  have hpw := HTO.out.at_ 16
  obtain ⟨p, hp⟩ : ∃ p, List.getD T 16 0 = p := ⟨_, rfl⟩
  rw [hp] at d16 hpw
  (try rw [hp] at c16)
  clear hp
  have HOKt := Lib.hid (HTO.out.set (j := 16) (mod_wd (p + 4)))
  have M7 := M4.out.put 0 rfl 16 (.int .u32 ((p + 4) % 4294967296))
  rw [wA_set] at M7
  have M8 := Lib.hid M7
  clear M7
  simp only [List.set_cons_zero, List.set_cons_succ] at M8
  go_upto_region 22 with fail
  refine Tl.start 3 (fun w' => w'.heap[w.heap.size]? = some (.cells (wA (T.set 16 ((p + 4) % 4294967296))) 44 (0, 0)) ∧ w'.heap[w.heap.size + 1 + 1 + 1 + 1]? = some (.cells z4 173 (0, 0))) (by kernel_rfl) (⟨M8.out.drew.blk 0 rfl, M8.out.drew.blk 4 rfl⟩) (fun hHeld => ?_)
  refine Tl.ty 0 (⟨some 74, .load 44 (.tmp 2), 44, "cpu.go:454", #[], none⟩ : Oper) (.agg (wA (T.set 16 ((p + 4) % 4294967296)))) rfl (Big.yields_load 44 rfl rfl rfl (fun w' h => h.1) uCpu (by rw [wA_size, HOKt.out.len]; exact sCpu)) (by assumption) ?_
  try simp only [Act.put, Tl.p2, Tl.p3, Tl.p4]
  refine Tl.ty 1 (⟨some 75, .load 173 (.tmp 6), 173, "cpu.go:454", #[⟨2, .gcOnly .lateStores⟩], none⟩ : Oper) (.agg z4) rfl (Big.yields_load 173 rfl rfl rfl (fun w' h => h.2) uEff sEff) (by assumption) ?_
  try simp only [Act.put, Tl.p2, Tl.p3, Tl.p4]
  refine Tl.step (i := 2) (o := (⟨none, .store 44 (.tmp 4) (.tmp 74), 0, "cpu.go:454", #[⟨0, .data⟩, ⟨0, .phase⟩, ⟨1, .textOnly .lateStores⟩], none⟩ : Oper)) (by kernel_rfl) rfl (fun K hK => ?_)
  refine Mem.step_storeAll 44 rfl rfl rfl rfl 2 M8.out.drew rfl (by rw [wA_size, HOKt.out.len]; exact sCpu) (by rw [wA_size, HOKt.out.len]; rfl) (wA_one _) ?_
  intro w8 M9'
  have M9 := Lib.hid M9'
  clear M9'
  refine hK.out _ _ (⟨M9.out.blk 0 rfl, M9.out.blk 4 rfl⟩) (fun hHeld => ?_)
  clear hK K
  try simp only [Act.put, Tl.p2, Tl.p3, Tl.p4]
  refine Tl.stepN (i := 3) (o := (⟨none, .store 173 (.tmp 5) (.tmp 75), 0, "cpu.go:454", #[⟨1, .data⟩, ⟨2, .chain⟩, ⟨0, .phase⟩, ⟨1, .phase⟩, ⟨2, .phase⟩], none⟩ : Oper)) (by kernel_rfl) (by kernel_rfl) rfl (fun K hK => ?_)
  refine Mem.step_storeAll 173 rfl rfl rfl rfl 3 M9.out rfl sEff rfl (z4_one) ?_
  intro w9 M10'
  have M10 := Lib.hid M10'
  clear M10'
  refine hK.out _ _ ?_
  clear hK K
  try simp only [Act.put, Tl.p2, Tl.p3, Tl.p4]
  refine Tl.done (by kernel_rfl) ?_ _
  go_wp2
  refine bodyPost_ret (res_cc Tryz.results118 rfl rfl (load_w (by rw [wA_size, HOKt.out.len]) (M10.out.blk 2 rfl)) (load_eff (M10.out.blk 3 rfl))) rfl ?_
  exact ⟨_, _, _, _, _, rfl, HOKt.out, M10.out.held, (fun _ h => by cases h), by decide, by decide, ⟨by decide, by decide⟩⟩
set_option maxHeartbeats 4000000 in
theorem system_in (a b c k : Nat) (ha : a ≤ 15) (hk : k ≤ 100) (L : List Int) (hL : CpuOK L) (w : World) : Calls Tryz.prog 118 #[.agg (wA L), inV 60 a b c (k : Int)] w (EffTo (some 1) w) := by
  have HTO := Lib.hid hL
  have z1 : (a : Int) ≤ 15 := by omega
  have z2 : (0 : Int) ≤ a := by omega
  have z3 : (k : Int) ≤ 100 := by omega
  have z4' : (0 : Int) ≤ k := by omega
  have z5 : IntKind.i64.wrap (k : Int) = k := IntWalk.i64_in _ ⟨by omega, by omega⟩
  have HZ : Is (wA L).size 25 := ⟨by rw [wA_size]; exact hL.len⟩
  have M0 := Lib.hid ((((((Mem.start w).alloc (wA L) 44).alloc' (b := w.heap.size + 1) (by simp) #[.int .i64 60, .int .i64 (a : Int), .int .i64 (b : Int), .int .i64 (c : Int), .int .i32 (k : Int)] 123).alloc' (b := w.heap.size + 1 + 1) (by simp) z25 44).alloc' (b := w.heap.size + 1 + 1 + 1) (by simp) z4 173).alloc' (b := w.heap.size + 1 + 1 + 1 + 1) (by simp) z4 173)
  simp only [List.cons_append, List.nil_append] at M0
  obtain ⟨⟨u0, u1, u2, u3, u4⟩, ⟨v0, v1, v2, v3, v4⟩, ub⟩ := M0.out.box5 1 rfl
  have c16 := M0.out.cell 0 rfl 16 (wA_at (by rw [hL.len]; decide))
  clear hL ha hk
  unfold EffTo
  go_enter Tryz.func118, Tryz.ntmps118
  go_upto_region 21 with (first | (show wpList _ _ _ ((⟨_, Op.store 173 _ _, _, _, _, _⟩ : Oper) :: _) _ _; refine Mem.go_storeAll 173 rfl rfl rfl rfl 4 M0.out rfl (news := #[.int .i64 1, .int .i64 (k : Int), .int .i64 (a : Int), .int .u32 0]) sEff rfl (by intro v hv; simp at hv; rcases hv with rfl | rfl | rfl | rfl <;> rfl) ?_; intro w4 M4'; have M4 := Lib.hid M4'; clear M4'))
  (try simp only [List.set_cons_zero, List.set_cons_succ] at M4)
  have d16 := M4.out.cell 0 rfl 16 (wA_at (by rw [HTO.out.len]; decide))
  have e16 := M4.out.free 0 rfl 16
  have hpw := HTO.out.at_ 16
  obtain ⟨p, hp⟩ : ∃ p, List.getD L 16 0 = p := ⟨_, rfl⟩
  rw [hp] at d16 hpw
  (try rw [hp] at c16)
  clear hp
  have HOKt := Lib.hid (HTO.out.set (j := 16) (mod_wd (p + 4)))
  have M7 := M4.out.put 0 rfl 16 (.int .u32 ((p + 4) % 4294967296))
  rw [wA_set] at M7
  have M8 := Lib.hid M7
  clear M7
  simp only [List.set_cons_zero, List.set_cons_succ] at M8
  go_upto_region 22 with fail
  refine Tl.start 3 (fun w' => w'.heap[w.heap.size]? = some (.cells (wA (L.set 16 ((p + 4) % 4294967296))) 44 (0, 0)) ∧ w'.heap[w.heap.size + 1 + 1 + 1 + 1]? = some (.cells #[.int .i64 1, .int .i64 (k : Int), .int .i64 (a : Int), .int .u32 0] 173 (0, 0))) (by kernel_rfl) (⟨M8.out.drew.blk 0 rfl, M8.out.drew.blk 4 rfl⟩) (fun hHeld => ?_)
  refine Tl.ty 0 (⟨some 74, .load 44 (.tmp 2), 44, "cpu.go:454", #[], none⟩ : Oper) (.agg (wA (L.set 16 ((p + 4) % 4294967296)))) rfl (Big.yields_load 44 rfl rfl rfl (fun w' h => h.1) uCpu (by rw [wA_size, HOKt.out.len]; exact sCpu)) (by assumption) ?_
  try simp only [Act.put, Tl.p2, Tl.p3, Tl.p4]
  refine Tl.ty 1 (⟨some 75, .load 173 (.tmp 6), 173, "cpu.go:454", #[⟨2, .gcOnly .lateStores⟩], none⟩ : Oper) (.agg #[.int .i64 1, .int .i64 (k : Int), .int .i64 (a : Int), .int .u32 0]) rfl (Big.yields_load 173 rfl rfl rfl (fun w' h => h.2) uEff sEff) (by assumption) ?_
  try simp only [Act.put, Tl.p2, Tl.p3, Tl.p4]
  refine Tl.step (i := 2) (o := (⟨none, .store 44 (.tmp 4) (.tmp 74), 0, "cpu.go:454", #[⟨0, .data⟩, ⟨0, .phase⟩, ⟨1, .textOnly .lateStores⟩], none⟩ : Oper)) (by kernel_rfl) rfl (fun K hK => ?_)
  refine Mem.step_storeAll 44 rfl rfl rfl rfl 2 M8.out.drew rfl (by rw [wA_size, HOKt.out.len]; exact sCpu) (by rw [wA_size, HOKt.out.len]; rfl) (wA_one _) ?_
  intro w8 M9'
  have M9 := Lib.hid M9'
  clear M9'
  refine hK.out _ _ (⟨M9.out.blk 0 rfl, M9.out.blk 4 rfl⟩) (fun hHeld => ?_)
  clear hK K
  try simp only [Act.put, Tl.p2, Tl.p3, Tl.p4]
  refine Tl.stepN (i := 3) (o := (⟨none, .store 173 (.tmp 5) (.tmp 75), 0, "cpu.go:454", #[⟨1, .data⟩, ⟨2, .chain⟩, ⟨0, .phase⟩, ⟨1, .phase⟩, ⟨2, .phase⟩], none⟩ : Oper)) (by kernel_rfl) (by kernel_rfl) rfl (fun K hK => ?_)
  refine Mem.step_storeAll 173 rfl rfl rfl rfl 3 M9.out rfl sEff rfl (by intro v hv; simp at hv; rcases hv with rfl | rfl | rfl | rfl <;> rfl) ?_
  intro w9 M10'
  have M10 := Lib.hid M10'
  clear M10'
  refine hK.out _ _ ?_
  clear hK K
  try simp only [Act.put, Tl.p2, Tl.p3, Tl.p4]
  refine Tl.done (by kernel_rfl) ?_ _
  go_wp2
  refine bodyPost_ret (res_cc Tryz.results118 rfl rfl (load_w (by rw [wA_size, HOKt.out.len]) (M10.out.blk 2 rfl)) (load_eff (M10.out.blk 3 rfl))) rfl ?_
  exact ⟨_, _, _, _, _, rfl, HOKt.out, M10.out.held, (fun z h => by injection h), z2, z1, ⟨by decide, by decide⟩⟩
set_option maxHeartbeats 4000000 in
theorem system_out (a b c k : Nat) (ha : a ≤ 15) (hk : k ≤ 100) (L : List Int) (hL : CpuOK L) (w : World) : Calls Tryz.prog 118 #[.agg (wA L), inV 61 a b c (k : Int)] w (EffTo none w) := by
  have HTO := Lib.hid hL
  have hx := hL.at_ a
  have ck := wA_at (L := L) (j := a) (by rw [hL.len]; omega)
  obtain ⟨x, hxe⟩ : ∃ x, L.getD a 0 = x := ⟨_, rfl⟩
  rw [hxe] at ck hx
  have HX := Lib.hid hx
  have z1 : (a : Int) < 16 := by omega
  have z2 : (0 : Int) ≤ a := by omega
  have z3 : (k : Int) ≤ 100 := by omega
  have z4' : (0 : Int) ≤ k := by omega
  have z5 : IntKind.i64.wrap (k : Int) = k := IntWalk.i64_in _ ⟨by omega, by omega⟩
  have HZ : Is (wA L).size 25 := ⟨by rw [wA_size]; exact hL.len⟩
  have M0 := Lib.hid ((((((Mem.start w).alloc (wA L) 44).alloc' (b := w.heap.size + 1) (by simp) #[.int .i64 61, .int .i64 (a : Int), .int .i64 (b : Int), .int .i64 (c : Int), .int .i32 (k : Int)] 123).alloc' (b := w.heap.size + 1 + 1) (by simp) z25 44).alloc' (b := w.heap.size + 1 + 1 + 1) (by simp) z4 173).alloc' (b := w.heap.size + 1 + 1 + 1 + 1) (by simp) z4 173)
  simp only [List.cons_append, List.nil_append] at M0
  have c16 := M0.out.cell 0 rfl 16 (wA_at (by rw [hL.len]; decide))
  clear hL ha hk hxe hx
  unfold EffTo
  have HC := Lib.hid fun (w' : World) (h : w'.heap[w.heap.size]? = some (.cells (wA L) 44 (0, 0))) => Bx.cell h a ck
  have HI := Lib.hid fun (w' : World) (h : w'.heap[w.heap.size + 1]? = some (.cells #[.int .i64 61, .int .i64 (a : Int), .int .i64 (b : Int), .int .i64 (c : Int), .int .i32 (k : Int)] 123 (0, 0))) => (⟨Bx.cell h 1 rfl, Bx.cell h 4 rfl⟩ : _ ∧ _)
  go_enter Tryz.func118, Tryz.ntmps118
  go_upto_region 14 with fail
  refine Tl.start 9 (fun w' => w'.cell? ⟨w.heap.size, a, none⟩ = some (.int .u32 x) ∧ w'.cell? ⟨w.heap.size + 1, 1, none⟩ = some (.int .i64 (a : Int)) ∧ w'.cell? ⟨w.heap.size + 1, 4, none⟩ = some (.int .i32 (k : Int))) (by kernel_rfl) (⟨HC.out _ (M0.out.drew.blk 0 rfl), HI.out _ (M0.out.drew.blk 1 rfl)⟩) (fun hHeld => ?_)
  refine Tl.tf 0 (⟨some 52, .fieldAddr 123 (.tmp 3) 4, 0, "cpu.go:445", #[], none⟩ : Oper) ?v28 rfl ?hy28 (by assumption) ?_
  case hy28 => (intro w; go_simp; all_goals (with_reducible rfl))
  try simp only [Act.put, Tl.p2, Tl.p3, Tl.p4]
  refine Tl.tk 1 (⟨some 53, .load 21 (.tmp 52), 21, "cpu.go:445", #[⟨0, .data⟩], none⟩ : Oper) ?v29 rfl ?hy29 (by assumption) ?_
  case hy29 => (intro w hSw; (try dsimp only at hSw); go_simp; all_goals (with_reducible rfl))
  try simp only [Act.put, Tl.p2, Tl.p3, Tl.p4]
  refine Tl.tf 2 (⟨some 54, .convert 21 3 (.tmp 53), 3, "cpu.go:445", #[⟨1, .data⟩], none⟩ : Oper) ?v30 rfl ?hy30 (by assumption) ?_
  case hy30 => (intro w; go_simp; all_goals (with_reducible rfl))
  try simp only [Act.put, Tl.p2, Tl.p3, Tl.p4]
  refine Tl.tf 3 (⟨some 55, .fieldAddr 123 (.tmp 3) 1, 0, "cpu.go:445", #[], none⟩ : Oper) ?v31 rfl ?hy31 (by assumption) ?_
  case hy31 => (intro w; go_simp; all_goals (with_reducible rfl))
  try simp only [Act.put, Tl.p2, Tl.p3, Tl.p4]
  refine Tl.tk 4 (⟨some 56, .load 3 (.tmp 55), 3, "cpu.go:445", #[⟨3, .data⟩], none⟩ : Oper) ?v32 rfl ?hy32 (by assumption) ?_
  case hy32 => (intro w hSw; (try dsimp only at hSw); go_simp; all_goals (with_reducible rfl))
  try simp only [Act.put, Tl.p2, Tl.p3, Tl.p4]
  refine Tl.tf 5 (⟨some 57, .fieldAddr 44 (.tmp 2) 0, 0, "cpu.go:445", #[], none⟩ : Oper) ?v33 rfl ?hy33 (by assumption) ?_
  case hy33 => (intro w; go_simp; all_goals (with_reducible rfl))
  try simp only [Act.put, Tl.p2, Tl.p3, Tl.p4]
  refine Tl.tf 6 (⟨some 58, .indexAddr 41 (.tmp 57) (.tmp 56), 0, "cpu.go:445", #[⟨5, .data⟩, ⟨4, .data⟩], none⟩ : Oper) ?v34 rfl ?hy34 (by assumption) ?_
  case hy34 => (intro w; go_simp; all_goals (with_reducible rfl))
  try simp only [Act.put, Tl.p2, Tl.p3, Tl.p4]
  refine Tl.tk 7 (⟨some 59, .load 40 (.tmp 58), 40, "cpu.go:445", #[⟨6, .data⟩], none⟩ : Oper) ?v35 rfl ?hy35 (by assumption) ?_
  case hy35 => (intro w hSw; (try dsimp only at hSw); go_simp; all_goals (with_reducible rfl))
  try simp only [Act.put, Tl.p2, Tl.p3, Tl.p4]
  refine Tl.ty 8 (⟨some 60, .build 173 #[(0, .const (.int .i64 2)), (1, .tmp 54), (3, .tmp 59)], 173, "cpu.go:445", #[⟨2, .data⟩, ⟨7, .data⟩], none⟩ : Oper) (.agg #[.int .i64 2, .int .i64 (k : Int), .int .i64 0, .int .u32 x]) rfl (Or.inl ⟨by rfl, fun w' hSw => by (try dsimp only at hSw); go_simp⟩) (by assumption) ?_
  try simp only [Act.put, Tl.p2, Tl.p3, Tl.p4]
  refine Tl.stepN (i := 9) (o := (⟨none, .store 173 (.tmp 6) (.tmp 60), 0, "cpu.go:445", #[⟨8, .data⟩, ⟨0, .phase⟩, ⟨1, .phase⟩, ⟨2, .phase⟩, ⟨3, .phase⟩, ⟨4, .phase⟩, ⟨5, .phase⟩, ⟨6, .phase⟩, ⟨7, .phase⟩, ⟨8, .phase⟩], none⟩ : Oper)) (by kernel_rfl) (by kernel_rfl) rfl (fun K hK => ?_)
  refine Mem.step_storeAll 173 rfl rfl rfl rfl 4 M0.out.drew rfl (news := #[.int .i64 2, .int .i64 (k : Int), .int .i64 0, .int .u32 x]) sEff rfl (by intro v hv; simp at hv; rcases hv with rfl | rfl | rfl | rfl <;> rfl) ?_
  intro w4 M4'
  have M4 := Lib.hid M4'
  clear M4'
  refine hK.out _ _ ?_
  clear hK K
  try simp only [Act.put, Tl.p2, Tl.p3, Tl.p4]
  refine Tl.done (by kernel_rfl) ?_ _
  (try simp only [List.set_cons_zero, List.set_cons_succ] at M4)
  have d16 := M4.out.cell 0 rfl 16 (wA_at (by rw [HTO.out.len]; decide))
  have e16 := M4.out.free 0 rfl 16
  have hpw := HTO.out.at_ 16
  obtain ⟨p, hp⟩ : ∃ p, List.getD L 16 0 = p := ⟨_, rfl⟩
  rw [hp] at d16 hpw
  (try rw [hp] at c16)
  clear hp
  have HOKt := Lib.hid (HTO.out.set (j := 16) (mod_wd (p + 4)))
  have M7 := M4.out.put 0 rfl 16 (.int .u32 ((p + 4) % 4294967296))
  rw [wA_set] at M7
  have M8 := Lib.hid M7
  clear M7
  simp only [List.set_cons_zero, List.set_cons_succ] at M8
  go_upto_region 22 with fail
  refine Tl.start 3 (fun w' => w'.heap[w.heap.size]? = some (.cells (wA (L.set 16 ((p + 4) % 4294967296))) 44 (0, 0)) ∧ w'.heap[w.heap.size + 1 + 1 + 1 + 1]? = some (.cells #[.int .i64 2, .int .i64 (k : Int), .int .i64 0, .int .u32 x] 173 (0, 0))) (by kernel_rfl) (⟨M8.out.drew.blk 0 rfl, M8.out.drew.blk 4 rfl⟩) (fun hHeld => ?_)
  refine Tl.ty 0 (⟨some 74, .load 44 (.tmp 2), 44, "cpu.go:454", #[], none⟩ : Oper) (.agg (wA (L.set 16 ((p + 4) % 4294967296)))) rfl (Big.yields_load 44 rfl rfl rfl (fun w' h => h.1) uCpu (by rw [wA_size, HOKt.out.len]; exact sCpu)) (by assumption) ?_
  try simp only [Act.put, Tl.p2, Tl.p3, Tl.p4]
  refine Tl.ty 1 (⟨some 75, .load 173 (.tmp 6), 173, "cpu.go:454", #[⟨2, .gcOnly .lateStores⟩], none⟩ : Oper) (.agg #[.int .i64 2, .int .i64 (k : Int), .int .i64 0, .int .u32 x]) rfl (Big.yields_load 173 rfl rfl rfl (fun w' h => h.2) uEff sEff) (by assumption) ?_
  try simp only [Act.put, Tl.p2, Tl.p3, Tl.p4]
  refine Tl.step (i := 2) (o := (⟨none, .store 44 (.tmp 4) (.tmp 74), 0, "cpu.go:454", #[⟨0, .data⟩, ⟨0, .phase⟩, ⟨1, .textOnly .lateStores⟩], none⟩ : Oper)) (by kernel_rfl) rfl (fun K hK => ?_)
  refine Mem.step_storeAll 44 rfl rfl rfl rfl 2 M8.out.drew rfl (by rw [wA_size, HOKt.out.len]; exact sCpu) (by rw [wA_size, HOKt.out.len]; rfl) (wA_one _) ?_
  intro w8 M9'
  have M9 := Lib.hid M9'
  clear M9'
  refine hK.out _ _ (⟨M9.out.blk 0 rfl, M9.out.blk 4 rfl⟩) (fun hHeld => ?_)
  clear hK K
  try simp only [Act.put, Tl.p2, Tl.p3, Tl.p4]
  refine Tl.stepN (i := 3) (o := (⟨none, .store 173 (.tmp 5) (.tmp 75), 0, "cpu.go:454", #[⟨1, .data⟩, ⟨2, .chain⟩, ⟨0, .phase⟩, ⟨1, .phase⟩, ⟨2, .phase⟩], none⟩ : Oper)) (by kernel_rfl) (by kernel_rfl) rfl (fun K hK => ?_)
  refine Mem.step_storeAll 173 rfl rfl rfl rfl 3 M9.out rfl sEff rfl (by intro v hv; simp at hv; rcases hv with rfl | rfl | rfl | rfl <;> rfl) ?_
  intro w9 M10'
  have M10 := Lib.hid M10'
  clear M10'
  refine hK.out _ _ ?_
  clear hK K
  try simp only [Act.put, Tl.p2, Tl.p3, Tl.p4]
  refine Tl.done (by kernel_rfl) ?_ _
  go_wp2
  refine bodyPost_ret (res_cc Tryz.results118 rfl rfl (load_w (by rw [wA_size, HOKt.out.len]) (M10.out.blk 2 rfl)) (load_eff (M10.out.blk 3 rfl))) rfl ?_
  exact ⟨_, _, _, _, _, rfl, HOKt.out, M10.out.held, (fun _ h => by cases h), by decide, by decide, HX.out⟩
set_option maxHeartbeats 4000000 in
theorem system_wfi (a b c k : Nat) (ha : a ≤ 15) (L : List Int) (hL : CpuOK L) (w : World) : Calls Tryz.prog 118 #[.agg (wA L), inV 62 a b c (k : Int)] w (EffTo none w) := by
  have HTO := Lib.hid hL
  have HZ : Is (wA L).size 25 := ⟨by rw [wA_size]; exact hL.len⟩
  have c16 := wA_at (L := L) (j := 16) (by rw [hL.len]; decide)
  clear hL ha
  unfold EffTo
  go_enter Tryz.func118, Tryz.ntmps118
  obtain ⟨p, hp⟩ : ∃ p, L.getD 16 0 = p := ⟨_, rfl⟩
  rw [hp] at c16
  clear hp
  have HOKt := Lib.hid (HTO.out.set (j := 16) (mod_wd (p + 4)))
  have M7 := ((((((Mem.start w).alloc ((wA L).setIfInBounds 16 (.int .u32 ((p + 4) % 4294967296))) 44).alloc' (b := w.heap.size + 1) (by simp) #[.int .i64 62, .int .i64 (a : Int), .int .i64 (b : Int), .int .i64 (c : Int), .int .i32 (k : Int)] 123).alloc' (b := w.heap.size + 1 + 1) (by simp) z25 44).alloc' (b := w.heap.size + 1 + 1 + 1) (by simp) z4 173).alloc' (b := w.heap.size + 1 + 1 + 1 + 1) (by simp) #[.int .i64 3, .int .i64 0, .int .i64 0, .int .u32 0] 173)
  rw [wA_set] at M7
  simp only [List.cons_append, List.nil_append] at M7
  have M8 := Lib.hid M7
  clear M7
  go_upto_region 22 with fail
  rw [wA_set]
  refine Tl.start 3 (fun w' => w'.heap[w.heap.size]? = some (.cells (wA (L.set 16 ((p + 4) % 4294967296))) 44 (0, 0)) ∧ w'.heap[w.heap.size + 1 + 1 + 1 + 1]? = some (.cells #[.int .i64 3, .int .i64 0, .int .i64 0, .int .u32 0] 173 (0, 0))) (by kernel_rfl) (⟨M8.out.drew.blk 0 rfl, M8.out.drew.blk 4 rfl⟩) (fun hHeld => ?_)
  refine Tl.ty 0 (⟨some 74, .load 44 (.tmp 2), 44, "cpu.go:454", #[], none⟩ : Oper) (.agg (wA (L.set 16 ((p + 4) % 4294967296)))) rfl (Big.yields_load 44 rfl rfl rfl (fun w' h => h.1) uCpu (by rw [wA_size, HOKt.out.len]; exact sCpu)) (by assumption) ?_
  try simp only [Act.put, Tl.p2, Tl.p3, Tl.p4]
  refine Tl.ty 1 (⟨some 75, .load 173 (.tmp 6), 173, "cpu.go:454", #[⟨2, .gcOnly .lateStores⟩], none⟩ : Oper) (.agg #[.int .i64 3, .int .i64 0, .int .i64 0, .int .u32 0]) rfl (Big.yields_load 173 rfl rfl rfl (fun w' h => h.2) uEff sEff) (by assumption) ?_
  try simp only [Act.put, Tl.p2, Tl.p3, Tl.p4]
  refine Tl.step (i := 2) (o := (⟨none, .store 44 (.tmp 4) (.tmp 74), 0, "cpu.go:454", #[⟨0, .data⟩, ⟨0, .phase⟩, ⟨1, .textOnly .lateStores⟩], none⟩ : Oper)) (by kernel_rfl) rfl (fun K hK => ?_)
  refine Mem.step_storeAll 44 rfl rfl rfl rfl 2 M8.out.drew rfl (by rw [wA_size, HOKt.out.len]; exact sCpu) (by rw [wA_size, HOKt.out.len]; rfl) (wA_one _) ?_
  intro w8 M9'
  have M9 := Lib.hid M9'
  clear M9'
  refine hK.out _ _ (⟨M9.out.blk 0 rfl, M9.out.blk 4 rfl⟩) (fun hHeld => ?_)
  clear hK K
  try simp only [Act.put, Tl.p2, Tl.p3, Tl.p4]
  refine Tl.stepN (i := 3) (o := (⟨none, .store 173 (.tmp 5) (.tmp 75), 0, "cpu.go:454", #[⟨1, .data⟩, ⟨2, .chain⟩, ⟨0, .phase⟩, ⟨1, .phase⟩, ⟨2, .phase⟩], none⟩ : Oper)) (by kernel_rfl) (by kernel_rfl) rfl (fun K hK => ?_)
  refine Mem.step_storeAll 173 rfl rfl rfl rfl 3 M9.out rfl sEff rfl (by intro v hv; simp at hv; rcases hv with rfl | rfl | rfl <;> rfl) ?_
  intro w9 M10'
  have M10 := Lib.hid M10'
  clear M10'
  refine hK.out _ _ ?_
  clear hK K
  try simp only [Act.put, Tl.p2, Tl.p3, Tl.p4]
  refine Tl.done (by kernel_rfl) ?_ _
  go_wp2
  refine bodyPost_ret (res_cc Tryz.results118 rfl rfl (load_w (by rw [wA_size, HOKt.out.len]) (M10.out.blk 2 rfl)) (load_eff (M10.out.blk 3 rfl))) rfl ?_
  exact ⟨_, _, _, _, _, rfl, HOKt.out, M10.out.held, (fun _ h => by cases h), by decide, by decide, ⟨by decide, by decide⟩⟩
set_option maxHeartbeats 4000000 in
theorem system_flush (a b c k : Nat) (ha : a ≤ 15) (L : List Int) (hL : CpuOK L) (w : World) : Calls Tryz.prog 118 #[.agg (wA L), inV 63 a b c (k : Int)] w (EffTo none w) := by
  have HTO := Lib.hid hL
  have HZ : Is (wA L).size 25 := ⟨by rw [wA_size]; exact hL.len⟩
  have c16 := wA_at (L := L) (j := 16) (by rw [hL.len]; decide)
  clear hL ha
  unfold EffTo
  go_enter Tryz.func118, Tryz.ntmps118
  obtain ⟨p, hp⟩ : ∃ p, L.getD 16 0 = p := ⟨_, rfl⟩
  rw [hp] at c16
  clear hp
  have HOKt := Lib.hid (HTO.out.set (j := 16) (mod_wd (p + 4)))
  have M7 := ((((((Mem.start w).alloc ((wA L).setIfInBounds 16 (.int .u32 ((p + 4) % 4294967296))) 44).alloc' (b := w.heap.size + 1) (by simp) #[.int .i64 63, .int .i64 (a : Int), .int .i64 (b : Int), .int .i64 (c : Int), .int .i32 (k : Int)] 123).alloc' (b := w.heap.size + 1 + 1) (by simp) z25 44).alloc' (b := w.heap.size + 1 + 1 + 1) (by simp) z4 173).alloc' (b := w.heap.size + 1 + 1 + 1 + 1) (by simp) #[.int .i64 5, .int .i64 0, .int .i64 0, .int .u32 0] 173)
  rw [wA_set] at M7
  simp only [List.cons_append, List.nil_append] at M7
  have M8 := Lib.hid M7
  clear M7
  go_upto_region 22 with fail
  rw [wA_set]
  refine Tl.start 3 (fun w' => w'.heap[w.heap.size]? = some (.cells (wA (L.set 16 ((p + 4) % 4294967296))) 44 (0, 0)) ∧ w'.heap[w.heap.size + 1 + 1 + 1 + 1]? = some (.cells #[.int .i64 5, .int .i64 0, .int .i64 0, .int .u32 0] 173 (0, 0))) (by kernel_rfl) (⟨M8.out.drew.blk 0 rfl, M8.out.drew.blk 4 rfl⟩) (fun hHeld => ?_)
  refine Tl.ty 0 (⟨some 74, .load 44 (.tmp 2), 44, "cpu.go:454", #[], none⟩ : Oper) (.agg (wA (L.set 16 ((p + 4) % 4294967296)))) rfl (Big.yields_load 44 rfl rfl rfl (fun w' h => h.1) uCpu (by rw [wA_size, HOKt.out.len]; exact sCpu)) (by assumption) ?_
  try simp only [Act.put, Tl.p2, Tl.p3, Tl.p4]
  refine Tl.ty 1 (⟨some 75, .load 173 (.tmp 6), 173, "cpu.go:454", #[⟨2, .gcOnly .lateStores⟩], none⟩ : Oper) (.agg #[.int .i64 5, .int .i64 0, .int .i64 0, .int .u32 0]) rfl (Big.yields_load 173 rfl rfl rfl (fun w' h => h.2) uEff sEff) (by assumption) ?_
  try simp only [Act.put, Tl.p2, Tl.p3, Tl.p4]
  refine Tl.step (i := 2) (o := (⟨none, .store 44 (.tmp 4) (.tmp 74), 0, "cpu.go:454", #[⟨0, .data⟩, ⟨0, .phase⟩, ⟨1, .textOnly .lateStores⟩], none⟩ : Oper)) (by kernel_rfl) rfl (fun K hK => ?_)
  refine Mem.step_storeAll 44 rfl rfl rfl rfl 2 M8.out.drew rfl (by rw [wA_size, HOKt.out.len]; exact sCpu) (by rw [wA_size, HOKt.out.len]; rfl) (wA_one _) ?_
  intro w8 M9'
  have M9 := Lib.hid M9'
  clear M9'
  refine hK.out _ _ (⟨M9.out.blk 0 rfl, M9.out.blk 4 rfl⟩) (fun hHeld => ?_)
  clear hK K
  try simp only [Act.put, Tl.p2, Tl.p3, Tl.p4]
  refine Tl.stepN (i := 3) (o := (⟨none, .store 173 (.tmp 5) (.tmp 75), 0, "cpu.go:454", #[⟨1, .data⟩, ⟨2, .chain⟩, ⟨0, .phase⟩, ⟨1, .phase⟩, ⟨2, .phase⟩], none⟩ : Oper)) (by kernel_rfl) (by kernel_rfl) rfl (fun K hK => ?_)
  refine Mem.step_storeAll 173 rfl rfl rfl rfl 3 M9.out rfl sEff rfl (by intro v hv; simp at hv; rcases hv with rfl | rfl | rfl <;> rfl) ?_
  intro w9 M10'
  have M10 := Lib.hid M10'
  clear M10'
  refine hK.out _ _ ?_
  clear hK K
  try simp only [Act.put, Tl.p2, Tl.p3, Tl.p4]
  refine Tl.done (by kernel_rfl) ?_ _
  go_wp2
  refine bodyPost_ret (res_cc Tryz.results118 rfl rfl (load_w (by rw [wA_size, HOKt.out.len]) (M10.out.blk 2 rfl)) (load_eff (M10.out.blk 3 rfl))) rfl ?_
  exact ⟨_, _, _, _, _, rfl, HOKt.out, M10.out.held, (fun _ h => by cases h), by decide, by decide, ⟨by decide, by decide⟩⟩
set_option maxHeartbeats 4000000 in
theorem system_halt (a b c k : Nat) (ha : a ≤ 15) (L : List Int) (hL : CpuOK L) (w : World) : Calls Tryz.prog 118 #[.agg (wA L), inV 64 a b c (k : Int)] w (EffTo none w) := by
  have HTO := Lib.hid hL
  have HZ : Is (wA L).size 25 := ⟨by rw [wA_size]; exact hL.len⟩
  have c16 := wA_at (L := L) (j := 16) (by rw [hL.len]; decide)
  clear hL ha
  unfold EffTo
  go_enter Tryz.func118, Tryz.ntmps118
  obtain ⟨p, hp⟩ : ∃ p, L.getD 16 0 = p := ⟨_, rfl⟩
  rw [hp] at c16
  clear hp
  have HOKt := Lib.hid (HTO.out.set (j := 16) (mod_wd (p + 4)))
  have M7 := ((((((Mem.start w).alloc ((wA L).setIfInBounds 16 (.int .u32 ((p + 4) % 4294967296))) 44).alloc' (b := w.heap.size + 1) (by simp) #[.int .i64 64, .int .i64 (a : Int), .int .i64 (b : Int), .int .i64 (c : Int), .int .i32 (k : Int)] 123).alloc' (b := w.heap.size + 1 + 1) (by simp) z25 44).alloc' (b := w.heap.size + 1 + 1 + 1) (by simp) z4 173).alloc' (b := w.heap.size + 1 + 1 + 1 + 1) (by simp) #[.int .i64 4, .int .i64 0, .int .i64 0, .int .u32 0] 173)
  rw [wA_set] at M7
  simp only [List.cons_append, List.nil_append] at M7
  have M8 := Lib.hid M7
  clear M7
  go_upto_region 22 with fail
  rw [wA_set]
  refine Tl.start 3 (fun w' => w'.heap[w.heap.size]? = some (.cells (wA (L.set 16 ((p + 4) % 4294967296))) 44 (0, 0)) ∧ w'.heap[w.heap.size + 1 + 1 + 1 + 1]? = some (.cells #[.int .i64 4, .int .i64 0, .int .i64 0, .int .u32 0] 173 (0, 0))) (by kernel_rfl) (⟨M8.out.drew.blk 0 rfl, M8.out.drew.blk 4 rfl⟩) (fun hHeld => ?_)
  refine Tl.ty 0 (⟨some 74, .load 44 (.tmp 2), 44, "cpu.go:454", #[], none⟩ : Oper) (.agg (wA (L.set 16 ((p + 4) % 4294967296)))) rfl (Big.yields_load 44 rfl rfl rfl (fun w' h => h.1) uCpu (by rw [wA_size, HOKt.out.len]; exact sCpu)) (by assumption) ?_
  try simp only [Act.put, Tl.p2, Tl.p3, Tl.p4]
  refine Tl.ty 1 (⟨some 75, .load 173 (.tmp 6), 173, "cpu.go:454", #[⟨2, .gcOnly .lateStores⟩], none⟩ : Oper) (.agg #[.int .i64 4, .int .i64 0, .int .i64 0, .int .u32 0]) rfl (Big.yields_load 173 rfl rfl rfl (fun w' h => h.2) uEff sEff) (by assumption) ?_
  try simp only [Act.put, Tl.p2, Tl.p3, Tl.p4]
  refine Tl.step (i := 2) (o := (⟨none, .store 44 (.tmp 4) (.tmp 74), 0, "cpu.go:454", #[⟨0, .data⟩, ⟨0, .phase⟩, ⟨1, .textOnly .lateStores⟩], none⟩ : Oper)) (by kernel_rfl) rfl (fun K hK => ?_)
  refine Mem.step_storeAll 44 rfl rfl rfl rfl 2 M8.out.drew rfl (by rw [wA_size, HOKt.out.len]; exact sCpu) (by rw [wA_size, HOKt.out.len]; rfl) (wA_one _) ?_
  intro w8 M9'
  have M9 := Lib.hid M9'
  clear M9'
  refine hK.out _ _ (⟨M9.out.blk 0 rfl, M9.out.blk 4 rfl⟩) (fun hHeld => ?_)
  clear hK K
  try simp only [Act.put, Tl.p2, Tl.p3, Tl.p4]
  refine Tl.stepN (i := 3) (o := (⟨none, .store 173 (.tmp 5) (.tmp 75), 0, "cpu.go:454", #[⟨1, .data⟩, ⟨2, .chain⟩, ⟨0, .phase⟩, ⟨1, .phase⟩, ⟨2, .phase⟩], none⟩ : Oper)) (by kernel_rfl) (by kernel_rfl) rfl (fun K hK => ?_)
  refine Mem.step_storeAll 173 rfl rfl rfl rfl 3 M9.out rfl sEff rfl (by intro v hv; simp at hv; rcases hv with rfl | rfl | rfl <;> rfl) ?_
  intro w9 M10'
  have M10 := Lib.hid M10'
  clear M10'
  refine hK.out _ _ ?_
  clear hK K
  try simp only [Act.put, Tl.p2, Tl.p3, Tl.p4]
  refine Tl.done (by kernel_rfl) ?_ _
  go_wp2
  refine bodyPost_ret (res_cc Tryz.results118 rfl rfl (load_w (by rw [wA_size, HOKt.out.len]) (M10.out.blk 2 rfl)) (load_eff (M10.out.blk 3 rfl))) rfl ?_
  exact ⟨_, _, _, _, _, rfl, HOKt.out, M10.out.held, (fun _ h => by cases h), by decide, by decide, ⟨by decide, by decide⟩⟩
end Ma
end Go.Proofs.YtdacgdokbfcgdaaGreat

namespace Go.Proofs.YtdacgdokbfcgdaaGreat
open Go.RowKit Go.BigFrame Go.Sort Go.Lib
namespace Ma

set_option maxHeartbeats 4000000 in
theorem jump_jal (a b c : Nat) (i : Int) (ha : a ≤ 15) (hb : b ≤ 15) (L : List Int) (hL : CpuOK L) (w : World) : Calls Tryz.prog 119 #[.agg (wA L), inV 48 a b c i] w (CpuSome w) := by
  have hp := hL.at_ 16
  have c16 := wA_at (L := L) (j := 16) (by rw [hL.len]; decide)
  obtain ⟨p, hpe⟩ : ∃ p, L.getD 16 0 = p := ⟨_, rfl⟩
  rw [hpe] at c16 hp
  have HT := Lib.hid fun v hv w => (show Calls Tryz.prog 95 _ w (fun e w' => e = .returned (.agg (wA (setR L a v))) ∧ Held w w' ∧ CpuOK (setR L a v)) from (set_any L a v hL ha w).mono fun e w' h => ⟨h.1, h.2, setR_ok hL a hv⟩)
  have HZ : Is (wA L).size 25 := ⟨by rw [wA_size]; exact hL.len⟩
  have M0 := Lib.hid ((((Mem.start w).alloc (wA L) 44).alloc' (b := w.heap.size + 1) (by simp) #[.int .i64 (48 : Int), .int .i64 (a : Int), .int .i64 (b : Int), .int .i64 (c : Int), .int .i32 i] 123).alloc' (b := w.heap.size + 1 + 1) (by simp) z25 44)
  simp only [List.cons_append, List.nil_append] at M0
  obtain ⟨⟨u0, u1, u2, u3, u4⟩, ⟨v0, v1, v2, v3, v4⟩, ub⟩ := M0.out.box5 1 rfl
  generalize wA L = cA at *
  clear hL hpe ha hb
  unfold CpuSome
  go_enter Tryz.func119, Tryz.ntmps119
  go_wp2_with (show wpList _ _ _ ((⟨_, Op.load 44 _, _, _, _, _⟩ : Oper) :: _) _ _; refine Mem.go_loadAll 44 rfl rfl rfl 0 M0.out rfl uCpu (by rw [HZ.out]; exact sCpu) ?_)
  refine (HT.out _ (mod_wd _) _).mono ?_
  rintro e w3 ⟨rfl, h3, hok⟩
  have HOK := Lib.hid hok
  have M3 := Lib.hid (M0.out.keep h3)
  clear h3 hok
  go_upto_region 9 with (show wpList _ _ _ ((⟨_, Op.store 44 _ _, _, _, _, _⟩ : Oper) :: _) _ _; refine Mem.go_storeAll 44 rfl rfl rfl rfl 0 M3.out rfl (by rw [wA_size, HOK.out.len]; exact sCpu) (by rw [wA_size, HOK.out.len, HZ.out]) (wA_one _) ?_; intro w4 M4'; have M4 := Lib.hid M4'; clear M4')
  simp only [List.set_cons_zero, List.set_cons_succ] at M4
  have d16 := M4.out.cell 0 rfl 16 (wA_at (by rw [HOK.out.len]; decide))
  have e16 := M4.out.free 0 rfl 16
  have M6' := M4.out.put 0 rfl 16 (.int .u32 ((p + 4 * (i % 4294967296)) % 4294967296))
  rw [wA_set] at M6'
  simp only [List.set_cons_zero, List.set_cons_succ] at M6'
  have M6 := Lib.hid M6'
  have HOK6 := Lib.hid (HOK.out.set (j := 16) (v := (p + 4 * (i % 4294967296)) % 4294967296) (mod_wd _))
  clear M6'
  go_upto_region 14 with fail
  go_wp2_with (first | (show wpList _ _ _ ((⟨_, Op.load 44 _, _, _, _, _⟩ : Oper) :: _) _ _; refine Mem.go_loadAll 44 rfl rfl rfl 0 M6.out rfl uCpu (by rw [wA_size, HOK6.out.len]; exact sCpu) ?_) | (show wpList _ _ _ ((⟨_, Op.store 44 _ _, _, _, _, _⟩ : Oper) :: _) _ _; refine Mem.go_storeAll 44 rfl rfl rfl rfl 2 M6.out rfl (by rw [wA_size, HOK6.out.len]; exact sCpu) (by rw [wA_size, HOK6.out.len]; rfl) (wA_one _) ?_; intro w7 M7'; have M7 := Lib.hid M7'; clear M7'))
  refine bodyPost_ret (Bx.res_c Tryz.results119 rfl (load_w (by rw [wA_size, HOK6.out.len]) (M7.out.blk 2 rfl))) rfl ?_
  exact ⟨_, rfl, HOK6.out, M7.out.held⟩
set_option maxHeartbeats 4000000 in
theorem jump_jalr (a b c : Nat) (i : Int) (ha : a ≤ 15) (hb : b ≤ 15) (L : List Int) (hL : CpuOK L) (w : World) : Calls Tryz.prog 119 #[.agg (wA L), inV 49 a b c i] w (CpuSome w) := by
  have hp := hL.at_ 16
  have c16 := wA_at (L := L) (j := 16) (by rw [hL.len]; decide)
  obtain ⟨p, hpe⟩ : ∃ p, L.getD 16 0 = p := ⟨_, rfl⟩
  rw [hpe] at c16 hp
  have cb := wA_at (L := L) (j := b) (by rw [hL.len]; omega)
  obtain ⟨x, hxe⟩ : ∃ x, L.getD b 0 = x := ⟨_, rfl⟩
  rw [hxe] at cb
  have z1 : (b : Int) < 16 := by omega
  have z2 : (0 : Int) ≤ b := by omega
  have HT := Lib.hid fun v hv w => (show Calls Tryz.prog 95 _ w (fun e w' => e = .returned (.agg (wA (setR L a v))) ∧ Held w w' ∧ CpuOK (setR L a v)) from (set_any L a v hL ha w).mono fun e w' h => ⟨h.1, h.2, setR_ok hL a hv⟩)
  have HZ : Is (wA L).size 25 := ⟨by rw [wA_size]; exact hL.len⟩
  have M0 := Lib.hid ((((Mem.start w).alloc (wA L) 44).alloc' (b := w.heap.size + 1) (by simp) #[.int .i64 (49 : Int), .int .i64 (a : Int), .int .i64 (b : Int), .int .i64 (c : Int), .int .i32 i] 123).alloc' (b := w.heap.size + 1 + 1) (by simp) z25 44)
  simp only [List.cons_append, List.nil_append] at M0
  obtain ⟨⟨u0, u1, u2, u3, u4⟩, ⟨v0, v1, v2, v3, v4⟩, ub⟩ := M0.out.box5 1 rfl
  generalize wA L = cA at *
  clear hL hpe ha hb hxe
  unfold CpuSome
  go_enter Tryz.func119, Tryz.ntmps119
  go_upto_region 11 with fail
  have HC := Lib.hid fun (w' : World) (h : w'.heap[w.heap.size]? = some (.cells cA 44 (0, 0))) => Bx.cell h b cb
  have HI := Lib.hid fun (w' : World) (h : w'.heap[w.heap.size + 1]? = some (.cells #[.int .i64 49, .int .i64 (a : Int), .int .i64 (b : Int), .int .i64 (c : Int), .int .i32 i] 123 (0, 0))) => (⟨Bx.cell h 2 rfl, Bx.cell h 4 rfl⟩ : _ ∧ _)
  refine Tl.start 10 (fun w' => w'.cell? ⟨w.heap.size, b, none⟩ = some (.int .u32 x) ∧ w'.cell? ⟨w.heap.size + 1, 2, none⟩ = some (.int .i64 (b : Int)) ∧ w'.cell? ⟨w.heap.size + 1, 4, none⟩ = some (.int .i32 i)) (by kernel_rfl) (⟨HC.out _ (M0.out.drew.blk 0 rfl), HI.out _ (M0.out.drew.blk 1 rfl)⟩) (fun hHeld => ?_)
  refine Tl.tf 0 (⟨some 53, .fieldAddr 123 (.tmp 3) 2, 0, "cpu.go:418", #[], none⟩ : Oper) ?v1 rfl ?hy1 (by assumption) ?_
  case hy1 => (intro w; go_simp; all_goals (with_reducible rfl))
  try simp only [Act.put, Tl.p2, Tl.p3, Tl.p4]
  refine Tl.tk 1 (⟨some 54, .load 3 (.tmp 53), 3, "cpu.go:418", #[⟨0, .data⟩], none⟩ : Oper) ?v2 rfl ?hy2 (by assumption) ?_
  case hy2 => (intro w hSw; (try dsimp only at hSw); go_simp; all_goals (with_reducible rfl))
  try simp only [Act.put, Tl.p2, Tl.p3, Tl.p4]
  refine Tl.tf 2 (⟨some 55, .fieldAddr 44 (.tmp 2) 0, 0, "cpu.go:418", #[], none⟩ : Oper) ?v3 rfl ?hy3 (by assumption) ?_
  case hy3 => (intro w; go_simp; all_goals (with_reducible rfl))
  try simp only [Act.put, Tl.p2, Tl.p3, Tl.p4]
  refine Tl.tf 3 (⟨some 56, .indexAddr 41 (.tmp 55) (.tmp 54), 0, "cpu.go:418", #[⟨2, .data⟩, ⟨1, .data⟩], none⟩ : Oper) ?v4 rfl ?hy4 (by assumption) ?_
  case hy4 => (intro w; go_simp; all_goals (with_reducible rfl))
  try simp only [Act.put, Tl.p2, Tl.p3, Tl.p4]
  refine Tl.tk 4 (⟨some 57, .load 40 (.tmp 56), 40, "cpu.go:418", #[⟨3, .data⟩], none⟩ : Oper) ?v5 rfl ?hy5 (by assumption) ?_
  case hy5 => (intro w hSw; (try dsimp only at hSw); go_simp; all_goals (with_reducible rfl))
  try simp only [Act.put, Tl.p2, Tl.p3, Tl.p4]
  refine Tl.tf 5 (⟨some 58, .fieldAddr 123 (.tmp 3) 4, 0, "cpu.go:418", #[], none⟩ : Oper) ?v6 rfl ?hy6 (by assumption) ?_
  case hy6 => (intro w; go_simp; all_goals (with_reducible rfl))
  try simp only [Act.put, Tl.p2, Tl.p3, Tl.p4]
  refine Tl.tk 6 (⟨some 59, .load 21 (.tmp 58), 21, "cpu.go:418", #[⟨5, .data⟩], none⟩ : Oper) ?v7 rfl ?hy7 (by assumption) ?_
  case hy7 => (intro w hSw; (try dsimp only at hSw); go_simp; all_goals (with_reducible rfl))
  try simp only [Act.put, Tl.p2, Tl.p3, Tl.p4]
  refine Tl.tf 7 (⟨some 60, .convert 21 40 (.tmp 59), 40, "cpu.go:418", #[⟨6, .data⟩], none⟩ : Oper) ?v8 rfl ?hy8 (by assumption) ?_
  case hy8 => (intro w; go_simp; all_goals (with_reducible rfl))
  try simp only [Act.put, Tl.p2, Tl.p3, Tl.p4]
  refine Tl.tf 8 (⟨some 61, .binOp .add 40 (.tmp 57) (.tmp 60) 40, 40, "cpu.go:418", #[⟨4, .data⟩, ⟨7, .data⟩], none⟩ : Oper) ?v9 rfl ?hy9 (by assumption) ?_
  case hy9 => (intro w; go_simp; all_goals (with_reducible rfl))
  try simp only [Act.put, Tl.p2, Tl.p3, Tl.p4]
  refine Tl.tf 9 (⟨some 7, .assign (.tmp 61), 40, "cpu.go:418", #[⟨8, .data⟩, ⟨0, .phase⟩, ⟨1, .phase⟩, ⟨2, .phase⟩, ⟨3, .phase⟩, ⟨4, .phase⟩, ⟨5, .phase⟩, ⟨6, .phase⟩, ⟨7, .phase⟩, ⟨8, .phase⟩], none⟩ : Oper) ?v10 rfl ?hy10 (by assumption) ?_
  case hy10 => (intro w; go_simp; all_goals (with_reducible rfl))
  try simp only [Act.put, Tl.p2, Tl.p3, Tl.p4]
  refine Tl.done (by kernel_rfl) ?_ _
  have M1 := Lib.hid M0.out.drew
  obtain ⟨⟨x0, x1, x2, x3, x4⟩, _, _⟩ := M1.out.box5 1 rfl
  go_wp2_with (show wpList _ _ _ ((⟨_, Op.load 44 _, _, _, _, _⟩ : Oper) :: _) _ _; refine Mem.go_loadAll 44 rfl rfl rfl 0 M1.out rfl uCpu (by rw [HZ.out]; exact sCpu) ?_)
  refine (HT.out _ (mod_wd _) _).mono ?_
  rintro e w3 ⟨rfl, h3, hok⟩
  have HOK := Lib.hid hok
  have M3 := Lib.hid (M1.out.keep h3)
  clear h3 hok
  go_upto_region 13 with (show wpList _ _ _ ((⟨_, Op.store 44 _ _, _, _, _, _⟩ : Oper) :: _) _ _; refine Mem.go_storeAll 44 rfl rfl rfl rfl 0 M3.out rfl (by rw [wA_size, HOK.out.len]; exact sCpu) (by rw [wA_size, HOK.out.len, HZ.out]) (wA_one _) ?_; intro w4 M4'; have M4 := Lib.hid M4'; clear M4')
  simp only [List.set_cons_zero, List.set_cons_succ] at M4
  have d16 := M4.out.cell 0 rfl 16 (wA_at (by rw [HOK.out.len]; decide))
  have e16 := M4.out.free 0 rfl 16
  have M6' := M4.out.put 0 rfl 16 (.int .u32 ((x + i) % 4294967296))
  rw [wA_set] at M6'
  simp only [List.set_cons_zero, List.set_cons_succ] at M6'
  have M6 := Lib.hid M6'
  have HOK6 := Lib.hid (HOK.out.set (j := 16) (v := (x + i) % 4294967296) (mod_wd _))
  clear M6'
  go_upto_region 14 with fail
  go_wp2_with (first | (show wpList _ _ _ ((⟨_, Op.load 44 _, _, _, _, _⟩ : Oper) :: _) _ _; refine Mem.go_loadAll 44 rfl rfl rfl 0 M6.out rfl uCpu (by rw [wA_size, HOK6.out.len]; exact sCpu) ?_) | (show wpList _ _ _ ((⟨_, Op.store 44 _ _, _, _, _, _⟩ : Oper) :: _) _ _; refine Mem.go_storeAll 44 rfl rfl rfl rfl 2 M6.out rfl (by rw [wA_size, HOK6.out.len]; exact sCpu) (by rw [wA_size, HOK6.out.len]; rfl) (wA_one _) ?_; intro w7 M7'; have M7 := Lib.hid M7'; clear M7'))
  refine bodyPost_ret (Bx.res_c Tryz.results119 rfl (load_w (by rw [wA_size, HOK6.out.len]) (M7.out.blk 2 rfl))) rfl ?_
  exact ⟨_, rfl, HOK6.out, M7.out.held⟩
set_option maxHeartbeats 4000000 in
theorem jump_br (op a b c : Nat) (i : Int) (ho : 40 ≤ op ∧ op ≤ 45) (ha : a ≤ 15) (hb : b ≤ 15) (L : List Int) (hL : CpuOK L) (w : World) : Calls Tryz.prog 119 #[.agg (wA L), inV op a b c i] w (CpuSome w) := by
  have hp := hL.at_ 16
  have c16 := wA_at (L := L) (j := 16) (by rw [hL.len]; decide)
  obtain ⟨p, hpe⟩ : ∃ p, L.getD 16 0 = p := ⟨_, rfl⟩
  rw [hpe] at c16 hp
  have cb := wA_at (L := L) (j := b) (by rw [hL.len]; omega)
  have hx := hL.at_ b
  obtain ⟨x, hxe⟩ : ∃ x, L.getD b 0 = x := ⟨_, rfl⟩
  rw [hxe] at cb hx
  have z1 : (b : Int) < 16 := by omega
  have z2 : (0 : Int) ≤ b := by omega
  have ca := wA_at (L := L) (j := a) (by rw [hL.len]; omega)
  have hy := hL.at_ a
  obtain ⟨y, hye⟩ : ∃ y, L.getD a 0 = y := ⟨_, rfl⟩
  rw [hye] at ca hy
  have z3 : (a : Int) < 16 := by omega
  have z4' : (0 : Int) ≤ a := by omega
  have z5 : ((op : Int) == 48) = false := by rw [beq_eq_false_iff_ne]; omega
  have z6 : ((op : Int) == 49) = false := by rw [beq_eq_false_iff_ne]; omega
  have HT := Lib.hid fun w => taken_any op y x ho hy hx w
  unfold BoolSome at HT
  have HOK := Lib.hid hL
  have HZ : Is (wA L).size 25 := ⟨by rw [wA_size]; exact hL.len⟩
  have M0 := Lib.hid ((((Mem.start w).alloc (wA L) 44).alloc' (b := w.heap.size + 1) (by simp) #[.int .i64 (op : Int), .int .i64 (a : Int), .int .i64 (b : Int), .int .i64 (c : Int), .int .i32 i] 123).alloc' (b := w.heap.size + 1 + 1) (by simp) z25 44)
  simp only [List.cons_append, List.nil_append] at M0
  obtain ⟨⟨u0, u1, u2, u3, u4⟩, ⟨v0, v1, v2, v3, v4⟩, ub⟩ := M0.out.box5 1 rfl
  have HS := Lib.hid fun v => wA_set L 16 v
  obtain ⟨cA, hcA⟩ : ∃ cA, wA L = cA := ⟨_, rfl⟩
  rw [hcA] at c16 cb ca HZ M0 u0 u1 u2 u3 u4 v0 v1 v2 v3 v4 ub ⊢
  clear hL hpe ha hb hxe hye hx hy ho
  unfold CpuSome
  go_enter Tryz.func119, Tryz.ntmps119
  go_upto_region 3 with fail
  have HC := Lib.hid fun (w' : World) (h : w'.heap[w.heap.size]? = some (.cells cA 44 (0, 0))) => (⟨Bx.cell h b cb, Bx.cell h a ca⟩ : _ ∧ _)
  have HI := Lib.hid fun (w' : World) (h : w'.heap[w.heap.size + 1]? = some (.cells #[.int .i64 (op : Int), .int .i64 (a : Int), .int .i64 (b : Int), .int .i64 (c : Int), .int .i32 i] 123 (0, 0))) => (⟨Bx.cell h 0 rfl, Bx.cell h 1 rfl, Bx.cell h 2 rfl⟩ : _ ∧ _ ∧ _)
  refine Tl.start 13 (fun w' => (w'.cell? ⟨w.heap.size, b, none⟩ = some (.int .u32 x) ∧ w'.cell? ⟨w.heap.size, a, none⟩ = some (.int .u32 y)) ∧ w'.cell? ⟨w.heap.size + 1, 0, none⟩ = some (.int .i64 (op : Int)) ∧ w'.cell? ⟨w.heap.size + 1, 1, none⟩ = some (.int .i64 (a : Int)) ∧ w'.cell? ⟨w.heap.size + 1, 2, none⟩ = some (.int .i64 (b : Int))) (by kernel_rfl) (⟨HC.out _ (M0.out.drew.blk 0 rfl), HI.out _ (M0.out.drew.blk 1 rfl)⟩) (fun hHeld => ?_)
  refine Tl.tf 0 (⟨some 13, .fieldAddr 123 (.tmp 3) 0, 0, "cpu.go:422", #[], none⟩ : Oper) ?v11 rfl ?hy11 (by assumption) ?_
  case hy11 => (intro w; go_simp; all_goals (with_reducible rfl))
  try simp only [Act.put, Tl.p2, Tl.p3, Tl.p4]
  refine Tl.tk 1 (⟨some 14, .load 3 (.tmp 13), 3, "cpu.go:422", #[⟨0, .data⟩], none⟩ : Oper) ?v12 rfl ?hy12 (by assumption) ?_
  case hy12 => (intro w hSw; (try dsimp only at hSw); go_simp; all_goals (with_reducible rfl))
  try simp only [Act.put, Tl.p2, Tl.p3, Tl.p4]
  refine Tl.tf 2 (⟨some 15, .fieldAddr 123 (.tmp 3) 1, 0, "cpu.go:422", #[], none⟩ : Oper) ?v13 rfl ?hy13 (by assumption) ?_
  case hy13 => (intro w; go_simp; all_goals (with_reducible rfl))
  try simp only [Act.put, Tl.p2, Tl.p3, Tl.p4]
  refine Tl.tk 3 (⟨some 16, .load 3 (.tmp 15), 3, "cpu.go:422", #[⟨2, .data⟩], none⟩ : Oper) ?v14 rfl ?hy14 (by assumption) ?_
  case hy14 => (intro w hSw; (try dsimp only at hSw); go_simp; all_goals (with_reducible rfl))
  try simp only [Act.put, Tl.p2, Tl.p3, Tl.p4]
  refine Tl.tf 4 (⟨some 17, .fieldAddr 44 (.tmp 2) 0, 0, "cpu.go:422", #[], none⟩ : Oper) ?v15 rfl ?hy15 (by assumption) ?_
  case hy15 => (intro w; go_simp; all_goals (with_reducible rfl))
  try simp only [Act.put, Tl.p2, Tl.p3, Tl.p4]
  refine Tl.tf 5 (⟨some 18, .indexAddr 41 (.tmp 17) (.tmp 16), 0, "cpu.go:422", #[⟨4, .data⟩, ⟨3, .data⟩], none⟩ : Oper) ?v16 rfl ?hy16 (by assumption) ?_
  case hy16 => (intro w; go_simp; all_goals (with_reducible rfl))
  try simp only [Act.put, Tl.p2, Tl.p3, Tl.p4]
  refine Tl.tk 6 (⟨some 19, .load 40 (.tmp 18), 40, "cpu.go:422", #[⟨5, .data⟩], none⟩ : Oper) ?v17 rfl ?hy17 (by assumption) ?_
  case hy17 => (intro w hSw; (try dsimp only at hSw); go_simp; all_goals (with_reducible rfl))
  try simp only [Act.put, Tl.p2, Tl.p3, Tl.p4]
  refine Tl.tf 7 (⟨some 20, .fieldAddr 123 (.tmp 3) 2, 0, "cpu.go:422", #[], none⟩ : Oper) ?v18 rfl ?hy18 (by assumption) ?_
  case hy18 => (intro w; go_simp; all_goals (with_reducible rfl))
  try simp only [Act.put, Tl.p2, Tl.p3, Tl.p4]
  refine Tl.tk 8 (⟨some 21, .load 3 (.tmp 20), 3, "cpu.go:422", #[⟨7, .data⟩], none⟩ : Oper) ?v19 rfl ?hy19 (by assumption) ?_
  case hy19 => (intro w hSw; (try dsimp only at hSw); go_simp; all_goals (with_reducible rfl))
  try simp only [Act.put, Tl.p2, Tl.p3, Tl.p4]
  refine Tl.tf 9 (⟨some 22, .fieldAddr 44 (.tmp 2) 0, 0, "cpu.go:422", #[], none⟩ : Oper) ?v20 rfl ?hy20 (by assumption) ?_
  case hy20 => (intro w; go_simp; all_goals (with_reducible rfl))
  try simp only [Act.put, Tl.p2, Tl.p3, Tl.p4]
  refine Tl.tf 10 (⟨some 23, .indexAddr 41 (.tmp 22) (.tmp 21), 0, "cpu.go:422", #[⟨9, .data⟩, ⟨8, .data⟩], none⟩ : Oper) ?v21 rfl ?hy21 (by assumption) ?_
  case hy21 => (intro w; go_simp; all_goals (with_reducible rfl))
  try simp only [Act.put, Tl.p2, Tl.p3, Tl.p4]
  refine Tl.tk 11 (⟨some 24, .load 40 (.tmp 23), 40, "cpu.go:422", #[⟨10, .data⟩], none⟩ : Oper) ?v22 rfl ?hy22 (by assumption) ?_
  case hy22 => (intro w hSw; (try dsimp only at hSw); go_simp; all_goals (with_reducible rfl))
  try simp only [Act.put, Tl.p2, Tl.p3, Tl.p4]
  refine Tl.step (i := 12) (o := (⟨some 25, .call { callee := .value (.func 152), args := #[.tmp 14, .tmp 19, .tmp 24], argTypes := #[3, 40, 40] }, 4, "cpu.go:422", #[⟨1, .data⟩, ⟨6, .data⟩, ⟨11, .data⟩], none⟩ : Oper)) (by kernel_rfl) rfl (fun K hK => ?_)
  go_simp
  go_at_call 152
  refine (HT.out _).mono ?_
  rintro e w3 ⟨t, rfl, h3⟩
  have M1' := M0.out.drew
  rw [h3] at M1'
  have M1 := Lib.hid M1'
  clear h3 M1'
  dsimp only
  refine hK.out _ _ (⟨HC.out _ (M1.out.blk 0 rfl), HI.out _ (M1.out.blk 1 rfl)⟩) (fun hHeld => ?_)
  clear hK K
  try simp only [Act.put, Tl.p2, Tl.p3, Tl.p4]
  refine Tl.done (by kernel_rfl) ?_ _
  obtain ⟨⟨x0, x1, x2, x3, x4⟩, _, _⟩ := M1.out.box5 1 rfl
  have y16 := M1.out.cell 0 rfl 16 c16
  subst hcA
  cases t
  · have d16 := M1.out.cell 0 rfl 16 (wA_at (by rw [HOK.out.len]; decide))
    have e16 := M1.out.free 0 rfl 16
    have M6' := M1.out.put 0 rfl 16 (.int .u32 ((p + 4) % 4294967296))
    rw [wA_set] at M6'
    simp only [List.set_cons_zero, List.set_cons_succ] at M6'
    have M6 := Lib.hid M6'
    have HOK6 := Lib.hid (HOK.out.set (j := 16) (v := (p + 4) % 4294967296) (mod_wd _))
    clear M6'
    go_upto_region 14 with fail
    go_wp2_with (first | (show wpList _ _ _ ((⟨_, Op.load 44 _, _, _, _, _⟩ : Oper) :: _) _ _; refine Mem.go_loadAll 44 rfl rfl rfl 0 M6.out rfl uCpu (by rw [wA_size, HOK6.out.len]; exact sCpu) ?_) | (show wpList _ _ _ ((⟨_, Op.store 44 _ _, _, _, _, _⟩ : Oper) :: _) _ _; refine Mem.go_storeAll 44 rfl rfl rfl rfl 2 M6.out rfl (by rw [wA_size, HOK6.out.len]; exact sCpu) (by rw [wA_size, HOK6.out.len]; rfl) (wA_one _) ?_; intro w7 M7'; have M7 := Lib.hid M7'; clear M7'))
    refine bodyPost_ret (Bx.res_c Tryz.results119 rfl (load_w (by rw [wA_size, HOK6.out.len]) (M7.out.blk 2 rfl))) rfl ?_
    exact ⟨_, rfl, HOK6.out, M7.out.held⟩
  · have d16 := M1.out.cell 0 rfl 16 (wA_at (by rw [HOK.out.len]; decide))
    have e16 := M1.out.free 0 rfl 16
    have M6' := M1.out.put 0 rfl 16 (.int .u32 ((p + 4 * (i % 4294967296)) % 4294967296))
    rw [wA_set] at M6'
    simp only [List.set_cons_zero, List.set_cons_succ] at M6'
    have M6 := Lib.hid M6'
    have HOK6 := Lib.hid (HOK.out.set (j := 16) (v := (p + 4 * (i % 4294967296)) % 4294967296) (mod_wd _))
    clear M6'
    go_upto_region 14 with fail
    go_wp2_with (first | (show wpList _ _ _ ((⟨_, Op.load 44 _, _, _, _, _⟩ : Oper) :: _) _ _; refine Mem.go_loadAll 44 rfl rfl rfl 0 M6.out rfl uCpu (by rw [wA_size, HOK6.out.len]; exact sCpu) ?_) | (show wpList _ _ _ ((⟨_, Op.store 44 _ _, _, _, _, _⟩ : Oper) :: _) _ _; refine Mem.go_storeAll 44 rfl rfl rfl rfl 2 M6.out rfl (by rw [wA_size, HOK6.out.len]; exact sCpu) (by rw [wA_size, HOK6.out.len]; rfl) (wA_one _) ?_; intro w7 M7'; have M7 := Lib.hid M7'; clear M7'))
    refine bodyPost_ret (Bx.res_c Tryz.results119 rfl (load_w (by rw [wA_size, HOK6.out.len]) (M7.out.blk 2 rfl))) rfl ?_
    exact ⟨_, rfl, HOK6.out, M7.out.held⟩
end Ma
end Go.Proofs.YtdacgdokbfcgdaaGreat
