/-
  The recorder of the reference: an event is offered.
  The recorder of the reference: an event arrives; a new recorder.
  The recorder of the reference: an advance.
  Contracts: vmfleetmake.Event: some valid event, no clock (chapter 24).
-/
import Derived.Test.YtdacgdokbfcgdaaGreatW13
import Derived.Test.YtdacgdokbfcgdaaGreatW9
import Derived.Test.YtdacgdokbfcgdaaGreatW1
import Derived.BigFrame
set_option linter.unusedVariables false
set_option linter.unusedSimpArgs false
set_option maxRecDepth 100000
namespace Go.Proofs.YtdacgdokbfcgdaaGreat
open Go.RowKit Go.BigFrame Go.Sort Go.Lib
namespace Ma
open Enc (Ent entC EntOK okX ord ordTo adj entC_len entC_one)
abbrev recX (clk : Int) (lv qv : Value) : List Value := [.int .u32 clk, lv, qv]
structure OffD (d : Dv) (LL : List Ent) (x : Evt) (d' : Dv) (LL' : List Ent) : Prop where
  dok : DvOK d'
  cnt : d'.cnt = d.cnt
  arm : d'.ta = true → d.ta = true
  log : LL' = LL ∨ (LL' = LL ++ [⟨d.cnt.toNat, x.k, x.n, x.s⟩] ∧ (x.k = 2 → d.ta = true ∧ d'.ta = false))
def OffTo (W : World) (b : Nat) (T : TypeId) (C : List Int) (g cap : Nat) (d : Dv) (clk : Int) (qv : Value) (LL : List Ent) (F : List Ck) (x : Evt) (e : Ending) (w' : World) : Prop :=
  ∃ (d' : Dv) (lv' : Value) (LL' : List Ent) (L' : List Int), e = .returned (.tuple #[]) ∧ OffD d LL x d' LL' ∧ MemOK L' ∧ Mem W w' (memR W.heap.size g cap L' :: macB b T C (memV g cap) d' (recX clk lv' qv) :: logR W.heap.size lv' LL' :: F)
set_option maxHeartbeats 8000000 in
theorem offer_any (W : World) (b : Nat) (T : TypeId) (C : List Int) (g cap : Nat) (d : Dv) (clk : Int) (lv qv : Value) (LL : List Ent) (F : List Ck) (L : List Int) (x : Evt) (hx : Wd x.n) (hC : C.length = 25) (hd : DvOK d) (hL : MemOK L) (hn : LL.length ≤ 100000) (w : World) (hM : Mem W w (memR W.heap.size g cap L :: macB b T C (memV g cap) d (recX clk lv qv) :: logR W.heap.size lv LL :: F)) :
    Calls Tryz.prog 100 #[.pointer (some ⟨b, 0, none⟩), .agg (evtA x)] w (OffTo W b T C g cap d clk qv LL F x) := by
  have HCL := Lib.hid hC
  have HN := Lib.hid hn
  have M0 := Lib.hid (hM.allocF (b := w.heap.size) rfl (evtA x) 66)
  have HA := Lib.hid fun (w' : World) (h : Mem W w' (memR W.heap.size g cap L :: macB b T C (memV g cap) d (recX clk lv qv) :: .box w.heap.size (evtA x) 66 :: logR W.heap.size lv LL :: F)) => accept7_any W b T C g cap d (recX clk lv qv) _ L x hx hC hd hL w' h
  unfold AppTo at HA
  have HD := Lib.hid hd
  have HX := Lib.hid hx
  clear hM hL hC hn hd hx
  go_enter Tryz.func100, Tryz.ntmps100
  go_upto_region 1 with fail
  refine Tl.start 5 (fun w' => w'.heap[w.heap.size]? = some (.cells (evtA x) 66 (0, 0))) (by kernel_rfl) (M0.out.drew.blk 0 rfl) (fun hHeld => ?_)
  refine Tl.tf 0 (⟨some 4, .move (.tmp 0), 184, "record.go:33", #[], none⟩ : Oper) ?v1 rfl ?hy1 (by assumption) ?_
  case hy1 => (intro w; go_simp; all_goals (with_reducible rfl))
  try simp only [Act.put, Tl.p2, Tl.p3, Tl.p4]
  refine Tl.tf 1 (⟨some 5, .nilCheck (.tmp 4), 0, "record.go:33", #[⟨0, .data⟩], none⟩ : Oper) ?v2 rfl ?hy2 (by assumption) ?_
  case hy2 => (intro w; go_simp; all_goals (with_reducible rfl))
  try simp only [Act.put, Tl.p2, Tl.p3, Tl.p4]
  refine Tl.tf 2 (⟨some 6, .fieldAddr 61 (.tmp 5) 0, 0, "record.go:33", #[⟨1, .data⟩], none⟩ : Oper) ?v3 rfl ?hy3 (by assumption) ?_
  case hy3 => (intro w; go_simp; all_goals (with_reducible rfl))
  try simp only [Act.put, Tl.p2, Tl.p3, Tl.p4]
  refine Tl.ty 3 (⟨some 7, .load 66 (.tmp 3), 66, "record.go:33", #[], none⟩ : Oper) (.agg (evtA x)) rfl (Big.yields_load 66 rfl rfl rfl (fun w' h => h) uEvt sEvt) (by assumption) ?_
  try simp only [Act.put, Tl.p2, Tl.p3, Tl.p4]
  refine Tl.step (i := 4) (o := (⟨some 8, .call { callee := .value (.func 131), args := #[.tmp 6, .tmp 7], argTypes := #[131, 66] }, 4, "record.go:33", #[⟨2, .data⟩, ⟨3, .data⟩], none⟩ : Oper)) (by kernel_rfl) rfl (fun K hK => ?_)
  go_simp
  go_at_call 131
  refine (HA.out _ M0.out.drew.dn2).mono ?_
  rintro e w3 ⟨d2, ok, L2, rfl, hd2, hL2, h3⟩
  have M3 := Lib.hid h3
  have HD2 := Lib.hid hd2
  have HL2 := Lib.hid hL2
  clear h3 hd2 hL2
  dsimp only
  refine hK.out _ _ (M3.out.blk 2 rfl) (fun hHeld => ?_)
  clear hK K
  try simp only [Act.put, Tl.p2, Tl.p3, Tl.p4]
  refine Tl.done (by kernel_rfl) ?_ _
  cases ok
  · go_wp2
    go_end0
    exact ⟨d2, lv, LL, L2, rfl, ⟨HD2.out.dok, HD2.out.cnt, HD2.out.arm, .inl rfl⟩, HL2.out, M3.out.up2.rest⟩
  · obtain ⟨c, hc⟩ : ∃ c : Nat, d2.cnt = (c : Int) := ⟨d2.cnt.toNat, by have := HD2.out.dok.cnt.1; omega⟩
    have hcn : d.cnt.toNat = c := by rw [← HD2.out.cnt, hc]; rfl
    have c46 := mc_dv (mv := memV g cap) (X := recX clk lv qv) HCL.out (j := 20) (by decide) (v := .int .u64 d2.cnt) rfl
    rw [hc] at c46
    have c50 := mc_x (C := C) (mv := memV g cap) (d := d2) (X := recX clk lv qv) HCL.out (j := 1) rfl
    have HB := Lib.hid fun (w' : World) (h : w'.heap[b]? = some (.cells (mcA C (memV g cap) d2 (recX clk lv qv)) T (0, 0))) (h2 : w'.heap[w.heap.size]? = some (.cells (evtA x) 66 (0, 0))) => (⟨h2, Bx.cell h 46 c46, Bx.cell h 50 c50⟩ : _ ∧ _ ∧ _)
    have hlb := M3.out.lt 1 rfl
    have hle := M3.out.lt 2 rfl
    go_upto_region 2 with fail
    refine Tl.start 16 (fun w' => w'.heap[w.heap.size]? = some (.cells (evtA x) 66 (0, 0)) ∧ w'.cell? ⟨b, 46, none⟩ = some (.int .u64 (c : Int)) ∧ w'.cell? ⟨b, 50, none⟩ = some lv) (by kernel_rfl) (HB.out _ (M3.out.drew.blk 1 rfl) (M3.out.drew.blk 2 rfl)) (fun hHeld => ?_)
    refine Tl.tf 0 (⟨some 9, .move (.tmp 0), 184, "record.go:34", #[], none⟩ : Oper) ?v5 rfl ?hy5 (by assumption) ?_
    case hy5 => (intro w; go_simp; all_goals (with_reducible rfl))
    try simp only [Act.put, Tl.p2, Tl.p3, Tl.p4]
    refine Tl.tf 1 (⟨some 10, .move (.tmp 0), 184, "record.go:34", #[], none⟩ : Oper) ?v6 rfl ?hy6 (by assumption) ?_
    case hy6 => (intro w; go_simp; all_goals (with_reducible rfl))
    try simp only [Act.put, Tl.p2, Tl.p3, Tl.p4]
    refine Tl.tf 2 (⟨some 11, .nilCheck (.tmp 10), 0, "record.go:34", #[⟨1, .data⟩], none⟩ : Oper) ?v7 rfl ?hy7 (by assumption) ?_
    case hy7 => (intro w; go_simp; all_goals (with_reducible rfl))
    try simp only [Act.put, Tl.p2, Tl.p3, Tl.p4]
    refine Tl.tf 3 (⟨some 12, .fieldAddr 61 (.tmp 11) 2, 0, "record.go:34", #[⟨2, .data⟩], none⟩ : Oper) ?v8 rfl ?hy8 (by assumption) ?_
    case hy8 => (intro w; go_simp; all_goals (with_reducible rfl))
    try simp only [Act.put, Tl.p2, Tl.p3, Tl.p4]
    refine Tl.tk 4 (⟨some 13, .load 25 (.tmp 12), 25, "record.go:34", #[⟨3, .data⟩], none⟩ : Oper) ?v9 rfl ?hy9 (by assumption) ?_
    case hy9 => (intro w hSw; (try dsimp only at hSw); go_simp; all_goals (with_reducible rfl))
    try simp only [Act.put, Tl.p2, Tl.p3, Tl.p4]
    refine Tl.tf 5 (⟨some 14, .move (.tmp 0), 184, "record.go:34", #[], none⟩ : Oper) ?v10 rfl ?hy10 (by assumption) ?_
    case hy10 => (intro w; go_simp; all_goals (with_reducible rfl))
    try simp only [Act.put, Tl.p2, Tl.p3, Tl.p4]
    refine Tl.tf 6 (⟨some 15, .nilCheck (.tmp 14), 0, "record.go:34", #[⟨5, .data⟩], none⟩ : Oper) ?v11 rfl ?hy11 (by assumption) ?_
    case hy11 => (intro w; go_simp; all_goals (with_reducible rfl))
    try simp only [Act.put, Tl.p2, Tl.p3, Tl.p4]
    refine Tl.tf 7 (⟨some 16, .fieldAddr 61 (.tmp 15) 0, 0, "record.go:34", #[⟨6, .data⟩], none⟩ : Oper) ?v12 rfl ?hy12 (by assumption) ?_
    case hy12 => (intro w; go_simp; all_goals (with_reducible rfl))
    try simp only [Act.put, Tl.p2, Tl.p3, Tl.p4]
    refine Tl.tf 8 (⟨some 17, .fieldAddr 57 (.tmp 16) 7, 0, "record.go:34", #[⟨7, .data⟩], none⟩ : Oper) ?v13 rfl ?hy13 (by assumption) ?_
    case hy13 => (intro w; go_simp; all_goals (with_reducible rfl))
    try simp only [Act.put, Tl.p2, Tl.p3, Tl.p4]
    refine Tl.tk 9 (⟨some 18, .load 30 (.tmp 17), 30, "record.go:34", #[⟨8, .data⟩], none⟩ : Oper) ?v14 rfl ?hy14 (by assumption) ?_
    case hy14 => (intro w hSw; (try dsimp only at hSw); go_simp; all_goals (with_reducible rfl))
    try simp only [Act.put, Tl.p2, Tl.p3, Tl.p4]
    refine Tl.ty 10 (⟨some 19, .load 66 (.tmp 3), 66, "record.go:34", #[], none⟩ : Oper) (.agg (evtA x)) rfl (Big.yields_load 66 rfl rfl rfl (fun w' h => h.1) uEvt sEvt) (by assumption) ?_
    try simp only [Act.put, Tl.p2, Tl.p3, Tl.p4]
    refine Tl.tf 11 (⟨some 20, .build 68 #[(0, .tmp 18), (1, .tmp 19)], 68, "record.go:34", #[⟨9, .data⟩, ⟨10, .data⟩], none⟩ : Oper) ?v16 rfl ?hy16 (by assumption) ?_
    case hy16 => (intro w; go_simp; all_goals (with_reducible rfl))
    try simp only [Act.put, Tl.p2, Tl.p3, Tl.p4]
    refine Tl.step (i := 12) (o := (⟨some 21, .buildSlice 25 1 #[(0, .tmp 20)], 25, "record.go:34", #[⟨11, .data⟩], none⟩ : Oper)) (by kernel_rfl) rfl (fun K hK => ?_)
    go_simp
    have M4 := Lib.hid ((M3.out.skip (.cells #[.int .u64 (c : Int), .int .i64 x.k, .int .u32 x.n, .string x.s] 68)).drew)
    refine hK.out _ _ (HB.out _ (M4.out.blk 1 rfl) (M4.out.blk 2 rfl)) (fun hHeld => ?_)
    clear hK K
    try simp only [Act.put, Tl.p2, Tl.p3, Tl.p4]
    refine Tl.step (i := 13) (o := (⟨some 22, .call { callee := .builtin .append, args := #[.tmp 13, .tmp 21], argTypes := #[25, 25] }, 25, "record.go:34", #[⟨4, .data⟩, ⟨12, .data⟩], none⟩ : Oper)) (by kernel_rfl) rfl (fun K hK => ?_)
    refine Mem.step_apps M4.out 3 rfl rfl _ _ 25 rfl _ 40 Tryz.underlying25 info_ent rfl (by decide) entC_len entC_one [⟨c, x.k, x.n, x.s⟩] ⟨w3.heap.size, 0, none⟩ 1 1 rfl rfl rfl (by decide) (cells_new w3 rfl #[.int .u64 (c : Int), .int .i64 x.k, .int .u32 x.n, .string x.s] 68) LL.length rfl (by have := HN.out; omega) (by decide) ?_
    intro g4 cp4 w4 MM'
    (try simp only [List.set_cons_zero, List.set_cons_succ] at MM')
    have M5 := Lib.hid MM'
    clear MM'
    have e50 := M5.out.cell 1 rfl 50 c50
    have f50 := M5.out.free 1 rfl 50
    refine hK.out _ _ (HB.out _ (M5.out.blk 1 rfl) (M5.out.blk 2 rfl)) (fun hHeld => ?_)
    clear hK K
    try simp only [Act.put, Tl.p2, Tl.p3, Tl.p4]
    refine Tl.tf 14 (⟨some 23, .nilCheck (.tmp 9), 0, "record.go:34", #[⟨0, .data⟩, ⟨0, .phase⟩, ⟨1, .phase⟩, ⟨2, .phase⟩, ⟨3, .phase⟩, ⟨4, .phase⟩, ⟨5, .phase⟩, ⟨6, .phase⟩, ⟨7, .phase⟩, ⟨8, .phase⟩, ⟨9, .phase⟩, ⟨10, .phase⟩, ⟨11, .phase⟩, ⟨12, .phase⟩, ⟨13, .phase⟩], none⟩ : Oper) ?v17 rfl ?hy17 (by assumption) ?_
    case hy17 => (intro w; go_simp; all_goals (with_reducible rfl))
    try simp only [Act.put, Tl.p2, Tl.p3, Tl.p4]
    refine Tl.tf 15 (⟨some 24, .fieldAddr 61 (.tmp 23) 2, 0, "record.go:34", #[⟨14, .data⟩, ⟨0, .phase⟩, ⟨1, .phase⟩, ⟨2, .phase⟩, ⟨3, .phase⟩, ⟨4, .phase⟩, ⟨5, .phase⟩, ⟨6, .phase⟩, ⟨7, .phase⟩, ⟨8, .phase⟩, ⟨9, .phase⟩, ⟨10, .phase⟩, ⟨11, .phase⟩, ⟨12, .phase⟩, ⟨13, .phase⟩], none⟩ : Oper) ?v18 rfl ?hy18 (by assumption) ?_
    case hy18 => (intro w; go_simp; all_goals (with_reducible rfl))
    try simp only [Act.put, Tl.p2, Tl.p3, Tl.p4]
    refine Tl.stepN (i := 16) (o := (⟨none, .store 25 (.tmp 24) (.tmp 22), 0, "record.go:34", #[⟨15, .data⟩, ⟨13, .data⟩, ⟨13, .chain⟩, ⟨0, .phase⟩, ⟨1, .phase⟩, ⟨2, .phase⟩, ⟨3, .phase⟩, ⟨4, .phase⟩, ⟨5, .phase⟩, ⟨6, .phase⟩, ⟨7, .phase⟩, ⟨8, .phase⟩, ⟨9, .phase⟩, ⟨10, .phase⟩, ⟨11, .phase⟩, ⟨12, .phase⟩, ⟨13, .phase⟩], none⟩ : Oper)) (by kernel_rfl) (by kernel_rfl) rfl (fun K hK => ?_)
    go_simp
    refine hK.out _ _ ?_
    clear hK K
    try simp only [Act.put, Tl.p2, Tl.p3, Tl.p4]
    refine Tl.done (by kernel_rfl) ?_ _
    have MM' := M5.out.put 1 rfl 50 (.slice (some ⟨g4, 0, none⟩) (LL.length + 1) cp4)
    rw [set_x HCL.out 1] at MM'
    (try simp only [List.set_cons_zero, List.set_cons_succ] at MM')
    have M6 := Lib.hid MM'
    clear MM'
    go_wp2
    go_end0
    exact ⟨d2, _, LL ++ [⟨c, x.k, x.n, x.s⟩], L2, rfl, ⟨HD2.out.dok, HD2.out.cnt, HD2.out.arm, .inr ⟨by rw [hcn], HD2.out.fire rfl⟩⟩, HL2.out, M6.out.up2.rest⟩
end Ma
end Go.Proofs.YtdacgdokbfcgdaaGreat

namespace Go.Proofs.YtdacgdokbfcgdaaGreat
open Go.RowKit Go.BigFrame Go.Sort Go.Lib
namespace Mem
/-- Three rows that a call has made, in front. -/
theorem threeF {W w w' : World} {H : List Ck} (h : Mem W w H) {α β γ : Type} {e1 e2 e3 : TypeId} {s1 s2 s3 : Nat} {f1 : α → List Value} {f2 : β → List Value} {f3 : γ → List Value} {v1 v2 v3 : Value} {L1 : List α} {L2 : List β} {L3 : List γ}
    (k : Mem w w' [.row e1 s1 f1 w.heap.size v1 L1, .row e2 s2 f2 w.heap.size v2 L2, .row e3 s3 f3 w.heap.size v3 L3]) :
    Mem W w' (.row e1 s1 f1 W.heap.size v1 L1 :: .row e2 s2 f2 W.heap.size v2 L2 :: .row e3 s3 f3 W.heap.size v3 L3 :: H) := by
  have hb := h.le
  have h1 := h.joinF k
  have h2 := h1.rebaseR 0 rfl hb
  have h3 := h2.rebaseR 1 rfl hb
  have h4 := h3.rebaseR 2 rfl hb
  exact h4
theorem go_build {w : World} {P : Program} {ops : Array Oper} {rest : List Oper} {o : Oper} {a : Act} {Q : Exit → Act → World → Prop} (t : TypeId) {i : Nat} {x : Operand} (hop : o.op = .build t #[(i, x)]) (hgd : o.guard = none) {v0 v : Value} (hx : a.eval x = v0) (hb : (Instr.build t #[(i, v0)]).run P w = .ok v w)
    (k : wpList P ops Q rest (a.put o.dst v) w) : wpList P ops Q (o :: rest) a w := by
  refine wpList_plain hgd fun K hK => ?_
  unfold Oper.wp execOp
  simp only [hop, List.map_toArray, List.map_cons, List.map_nil, hx, Sem.run_bind, Sem.run_map, hb, Result.andThen_ok, Sem.run_pure]
  exact hK _ _ k
end Mem
namespace Ma
open Enc (Ent entC EntOK okX ord ordTo adj entC_len entC_one)
/-- A valid event that is no clock value. -/
structure EvtV (x : Evt) : Prop where
  n : Wd x.n
  k : 2 ≤ x.k ∧ x.k ≤ 6
  s : x.s.size ≤ 200
  ok : Ev.ok x.k x.n x.s.data.toList = true
def ArrTo (C : List Int) (n : Nat) (M : List Int) (d : Dv) (clk : Int) (LL : List Ent) (QL : List Evt) (x : Evt) (w : World) (e : Ending) (w' : World) : Prop :=
  ∃ (g : Nat) (A1 A2 : Option Addr) (c1 c2 : Nat) (ok : Bool) (QL' : List Evt), e = .returned (.tuple #[recV C g n d clk (.slice A1 LL.length c1) (.slice A2 QL'.length c2), .bool ok]) ∧ (QL' = QL ∨ QL' = QL ++ [x]) ∧ Mem w w' [memN w.heap.size g n M, logR w.heap.size (.slice A1 LL.length c1) LL, queR w.heap.size (.slice A2 QL'.length c2) QL']
set_option maxHeartbeats 8000000 in
theorem arrive_any (C : List Int) (A : Option Addr) (n cap : Nat) (d : Dv) (clk : Int) (A1 A2 : Option Addr) (n1 c1 n2 c2 : Nat) (M : List Int) (LL : List Ent) (QL : List Evt) (x : Evt) (hx : EvtV x) (hC : C.length = 25) (hn : n ≤ 1024) (w : World) (h : Sl 1 uC w A n M) (h1 : Sl 4 entC w A1 n1 LL) (h2 : Sl 3 evtC w A2 n2 QL) (hn1 : n1 ≤ 1000000) (hn2 : n2 ≤ 1000) :
    Calls Tryz.prog 67 #[.agg (mcA C (.slice A n cap) d [.int .u32 clk, .slice A1 n1 c1, .slice A2 n2 c2]), .agg (evtA x)] w (ArrTo C n M d clk LL QL x w) := by
  have HCL := Lib.hid hC
  have HO := Lib.hid fun (w' : World) (h' : Held w w') => own19_any C A n cap d clk A1 A2 n1 c1 n2 c2 M LL QL hC hn w' (h.held h') (h1.held h') (h2.held h') hn1 (by omega)
  unfold OwrTo recV memS at HO
  have HV := Lib.hid fun w => Ev.valid_ref x.k x.n x.s (by have := hx.k; omega) (by have := hx.k; omega) (by have := hx.n.1; omega) (by have := hx.n.2; omega) (by have := hx.s; omega) w
  rw [hx.ok] at HV
  have zk : (x.k == 1) = false := by rw [beq_eq_false_iff_ne]; have := hx.k; omega
  have M0 := Lib.hid ((((Mem.start w).allocF (b := w.heap.size) rfl (mcA C (.slice A n cap) d [.int .u32 clk, .slice A1 n1 c1, .slice A2 n2 c2]) 61).allocF (b := w.heap.size + 1) (by simp) (evtA x) 66).allocF (b := w.heap.size + 1 + 1) (by simp) z52 61)
  have HX1 : ∀ lv qv : Value, Hid (lv.oneCell' = true → qv.oneCell' = true → ∀ v ∈ ([.int .u32 clk, lv, qv] : List Value), v.oneCell' = true) := fun lv qv => Lib.hid fun a b v hv => by
    simp only [List.mem_cons, List.not_mem_nil, or_false] at hv
    rcases hv with rfl | rfl | rfl
    · rfl
    · exact a
    · exact b
  have HQ := Lib.hid h2.1
  have HN2 := Lib.hid hn2
  have HXX := HX1
  clear hC h h1 h2 hn hx HX1
  unfold ArrTo
  go_enter Tryz.func67, Tryz.ntmps67
  go_wp2_with (show wpList _ _ _ ((⟨_, Op.load 61 _, _, _, _, _⟩ : Oper) :: _) _ _; refine Mem.go_loadAll 61 rfl rfl rfl 2 M0.out rfl uRec (by rw [mc_size HCL.out]; exact sRec) ?_)
  refine (HO.out _ M0.out.held).mono ?_
  rintro e w3 ⟨g, B1, B2, k1, k2, rfl, h3⟩
  have M3 := Lib.hid (M0.out.threeF h3)
  clear h3 HO
  have HX1 := Lib.hid ((HXX (.slice B1 LL.length k1) (.slice B2 QL.length k2)).out rfl rfl)
  go_upto_region 2 with (show wpList _ _ _ ((⟨_, Op.store 61 _ _, _, _, _, _⟩ : Oper) :: _) _ _; refine Mem.go_storeAll 61 rfl rfl rfl rfl 5 M3.out rfl (by rw [mc_size HCL.out]; exact sRec) (by first | (rw [mc_size HCL.out]; done) | (rw [mc_size HCL.out]; rfl) | (rw [mc_size HCL.out, mc_size HCL.out]; done) | (rw [mc_size HCL.out, mc_size HCL.out]; rfl)) (mc_one _ rfl _ HX1.out) ?_; intro w4 MM'; (try simp only [List.set_cons_zero, List.set_cons_succ] at MM'); have M4 := Lib.hid MM'; clear MM')
  obtain ⟨⟨x0, x1, x2⟩, _, _⟩ := M4.out.box3 4 rfl
  have x51 := M4.out.cell 5 rfl 51 (mc_x (X := [.int .u32 clk, .slice B1 LL.length k1, .slice B2 QL.length k2]) HCL.out (j := 2) rfl)
  go_wp2_with fail
  refine (HV.out _).mono ?_
  rintro e w5 ⟨rfl, h5⟩
  have M5 := Lib.hid (M4.out.keep h5)
  clear h5 x0 x1 x2 x51
  obtain ⟨⟨x0, x1, x2⟩, _, _⟩ := M5.out.box3 4 rfl
  have x51 := M5.out.cell 5 rfl 51 (mc_x (X := [.int .u32 clk, .slice B1 LL.length k1, .slice B2 QL.length k2]) HCL.out (j := 2) rfl)
  by_cases hq : 16 ≤ QL.length
  · have y : (16 : Int) ≤ QL.length := by omega
    go_wp2_with (first | (show wpList _ _ _ ((⟨_, Op.load 61 _, _, _, _, _⟩ : Oper) :: _) _ _; refine Mem.go_loadAll 61 rfl rfl rfl 5 M5.out rfl uRec (by rw [mc_size HCL.out]; exact sRec) ?_) | (show wpList _ _ _ ((⟨_, Op.store 61 _ _, _, _, _, _⟩ : Oper) :: _) _ _; refine Mem.go_storeAll 61 rfl rfl rfl rfl 3 M5.out rfl (by rw [mc_size HCL.out]; exact sRec) (by first | (rw [mc_size HCL.out]; done) | (rw [mc_size HCL.out]; rfl) | (rw [mc_size HCL.out, mc_size HCL.out]; done) | (rw [mc_size HCL.out, mc_size HCL.out]; rfl)) (mc_one _ rfl _ HX1.out) ?_; intro w6 MM'; (try simp only [List.set_cons_zero, List.set_cons_succ] at MM'); have M6 := Lib.hid MM'; clear MM'))
    refine bodyPost_ret (Bx.res_ct Tryz.results67 rfl (load_rec (mc_size HCL.out) (M6.out.blk 3 rfl))) rfl ?_
    exact ⟨g, _, _, _, _, _, QL, rfl, .inl rfl, M6.out.take 3⟩
  · have y : ¬ (16 : Int) ≤ QL.length := by omega
    have f51 := M5.out.free 5 rfl 51
    go_upto_region 5 with (at_builtin; refine Mem.wp_apps (M5.out.skip _) 2 rfl rfl _ _ 59 rfl _ 32 Tryz.underlying59 info_evt rfl (by decide) evtC_len evtC_one [x] ⟨w5.heap.size, 0, none⟩ 1 1 rfl rfl rfl (by decide) (cells_new w5 rfl (evtA x) 66) QL.length rfl (by omega) (by decide) ?_; intro g6 cp6 w6 MM'; (try simp only [List.set_cons_zero, List.set_cons_succ] at MM'); have M6 := Lib.hid MM'; have e51 := MM'.cell 5 rfl 51 (mc_x (X := [.int .u32 clk, .slice B1 LL.length k1, .slice B2 QL.length k2]) HCL.out (j := 2) rfl); have g51 := MM'.free 5 rfl 51; clear MM' x51 f51)
    have MM' := M6.out.put 5 rfl 51 (.slice (some ⟨g6, 0, none⟩) (QL.length + 1) cp6)
    rw [set_x HCL.out 2] at MM'
    (try simp only [List.set_cons_zero, List.set_cons_succ] at MM')
    have M7 := Lib.hid MM'
    clear MM'
    clear HX1
    have HX1 := Lib.hid ((HXX (.slice B1 LL.length k1) (.slice (some ⟨g6, 0, none⟩) (QL.length + 1) cp6)).out rfl rfl)
    go_wp2_with (first | (show wpList _ _ _ ((⟨_, Op.load 61 _, _, _, _, _⟩ : Oper) :: _) _ _; refine Mem.go_loadAll 61 rfl rfl rfl 5 M7.out rfl uRec (by rw [mc_size HCL.out]; exact sRec) ?_) | (show wpList _ _ _ ((⟨_, Op.store 61 _ _, _, _, _, _⟩ : Oper) :: _) _ _; refine Mem.go_storeAll 61 rfl rfl rfl rfl 3 M7.out rfl (by rw [mc_size HCL.out]; exact sRec) (by first | (rw [mc_size HCL.out]; done) | (rw [mc_size HCL.out]; rfl) | (rw [mc_size HCL.out, mc_size HCL.out]; done) | (rw [mc_size HCL.out, mc_size HCL.out]; rfl)) (mc_one _ rfl _ HX1.out) ?_; intro w8 MM'; (try simp only [List.set_cons_zero, List.set_cons_succ] at MM'); have M8 := Lib.hid MM'; clear MM'))
    refine bodyPost_ret (Bx.res_ct Tryz.results67 rfl (load_rec (mc_size HCL.out) (M8.out.blk 3 rfl))) rfl ?_
    have hl : (QL ++ [x]).length = QL.length + 1 := by simp
    exact ⟨g, _, _, _, _, _, QL ++ [x], by rw [hl]; rfl, .inr rfl, by rw [hl]; exact M8.out.take 3⟩
theorem HX1_of (clk : Int) (lv qv : Value) (a : lv.oneCell' = true) (b : qv.oneCell' = true) : ∀ v ∈ ([.int .u32 clk, lv, qv] : List Value), v.oneCell' = true := fun v hv => by
  simp only [List.mem_cons, List.not_mem_nil, or_false] at hv
  rcases hv with rfl | rfl | rfl
  · rfl
  · exact a
  · exact b
theorem zipf : ∀ (l : List Value) (k : Nat) (z : Array Value), k + l.length ≤ z.size → ((l.zipIdx k).foldl (fun cs x => cs.setIfInBounds x.2 x.1) z).toList = z.toList.take k ++ l ++ z.toList.drop (k + l.length)
  | [], k, z, h => by simp
  | x :: l, k, z, h => by
    rw [List.length_cons] at h
    rw [List.zipIdx_cons, List.foldl_cons, zipf l (k + 1) (z.setIfInBounds k x) (by rw [Array.size_setIfInBounds]; omega)]
    simp only [Array.toList_setIfInBounds, List.length_cons]
    rw [List.drop_set_of_lt (by omega), List.take_set, List.take_add_one, show k + 1 + l.length = k + (l.length + 1) from by omega]
    have hk : k < z.toList.length := by rw [Array.length_toList]; omega
    rw [List.getElem?_eq_getElem hk, Option.toList_some, List.set_append_right _ _ (by rw [List.length_take]; omega), List.length_take, Nat.min_eq_left (by omega), Nat.sub_self]
    simp
theorem zipfold (z v : Array Value) (h : v.size ≤ z.size) : Array.foldl (fun cs x => cs.setIfInBounds x.2 x.1) z (v.zipIdx) 0 v.size = ⟨v.toList ++ z.toList.drop v.size⟩ := by
  have e : v.size = (v.zipIdx).size := by simp
  rw [e, ← Array.foldl_toList, Array.toList_zipIdx]
  apply Array.ext'
  rw [zipf v.toList 0 z (by rw [Array.length_toList]; omega)]
  simp
theorem zip_rec {C : List Int} (hC : C.length = 25) (mv : Value) (d : Dv) : Array.foldl (fun cs x => cs.setIfInBounds x.2 x.1) z52 ((mcA C mv d []).zipIdx) 0 (mcA C mv d []).size = mcA C mv d [.int .u32 0, .slice none 0 0, .slice none 0 0] := by
  rw [zipfold _ _ (by rw [mc_size hC]; exact (by decide : 49 + 0 ≤ 52)), mc_size hC]
  apply Array.ext'
  show _ ++ _ = _
  have e : ∀ (X : List Value), (mcA C mv d X).toList = (mcA C mv d []).toList ++ X := by intro X; simp [mcA, mcL]
  rw [e [.int .u32 0, .slice none 0 0, .slice none 0 0]]
  rfl
theorem build_rec (cs R : Array Value) (hs : cs.size = 49) (hz : Array.foldl (fun cs x => cs.setIfInBounds x.2 x.1) z52 (cs.zipIdx) 0 cs.size = R) (w : World) : (Instr.build 61 #[(0, .agg cs)]).run Tryz.prog w = .ok (.agg R) w := by
  rw [hs] at hz
  subst hz
  go_simp
set_option maxHeartbeats 4000000 in
theorem newrec_any (C : List Int) (A : Option Addr) (n cap : Nat) (d : Dv) (M : List Int) (hC : C.length = 25) (hn : n ≤ 1024) (w : World) (h : Sl 1 uC w A n M) :
    Calls Tryz.prog 40 #[macV C (.slice A n cap) d] w (fun e w' => ∃ g, e = .returned (recV C g n d 0 (.slice none 0 0) (.slice none 0 0)) ∧ Mem w w' [memN w.heap.size g n M]) := by
  have HO := Lib.hid fun (w' : World) (h' : Held w w') => own7_any C A n cap d M hC hn w' (h.held h')
  unfold OwnTo at HO
  have HCL := Lib.hid hC
  have HS0 : Is (mcA C (.slice A n cap) d []).size 49 := ⟨mc_size hC⟩
  have M0 := Lib.hid (((Mem.start w).allocF (b := w.heap.size) rfl (mcA C (.slice A n cap) d []) 57).allocF (b := w.heap.size + 1) (by simp) z52 61)
  clear h hC hn
  go_enter Tryz.func40, Tryz.ntmps40
  go_wp2_with (show wpList _ _ _ ((⟨_, Op.load 57 _, _, _, _, _⟩ : Oper) :: _) _ _; refine Mem.go_loadAll 57 rfl rfl rfl 1 M0.out rfl uMac (by rw [HS0.out]; exact sMac) ?_)
  refine (HO.out _ M0.out.held).mono ?_
  rintro e w3 ⟨g, rfl, h3, hown⟩
  have M3 := Lib.hid (M0.out.ownF h3 hown)
  clear h3 hown
  have HX1 := Lib.hid (HX1_of 0 (.slice none 0 0) (.slice none 0 0) rfl rfl)
  go_wp2_with (first | (show wpList _ _ _ ((⟨_, Op.build 61 _, _, _, _, _⟩ : Oper) :: _) _ _; refine Mem.go_build 61 rfl rfl rfl (v := .agg (mcA C (.slice (some ⟨g, 0, none⟩) n n) d [.int .u32 0, .slice none 0 0, .slice none 0 0])) (build_rec _ _ (mc_size HCL.out) (zip_rec HCL.out _ d) _) ?_) | (show wpList _ _ _ ((⟨_, Op.store 61 _ _, _, _, _, _⟩ : Oper) :: _) _ _; refine Mem.go_storeAll 61 rfl rfl rfl rfl 1 M3.out rfl (by rw [mc_size HCL.out]; exact sRec) (by first | (rw [mc_size HCL.out]; done) | (rw [mc_size HCL.out]; rfl) | (rw [mc_size HCL.out, mc_size HCL.out]; done) | (rw [mc_size HCL.out, mc_size HCL.out]; rfl)) (mc_one _ rfl _ HX1.out) ?_; intro w4 MM'; (try simp only [List.set_cons_zero, List.set_cons_succ] at MM'); have M4 := Lib.hid MM'; clear MM'))
  refine bodyPost_ret (Bx.res_c Tryz.results40 rfl (load_rec (mc_size HCL.out) (M4.out.blk 1 rfl))) rfl ?_
  exact ⟨g, rfl, M4.out.take 1⟩
end Ma
end Go.Proofs.YtdacgdokbfcgdaaGreat

namespace Go.Proofs.YtdacgdokbfcgdaaGreat
open Go.RowKit Go.BigFrame Go.Sort Go.Lib
namespace Ma
open Enc (Ent entC EntOK okX ord ordTo adj entC_len entC_one)
set_option maxHeartbeats 1000000 in
theorem limited_any (k : Nat) (hk : k ≤ 4000) (w : World) : Calls Tryz.prog 101 #[.int .i64 (k : Int)] w fun e w' => e = .returned (.int .i64 (k : Int)) ∧ w = w' := by
  have y0 : ¬ (k : Int) < 0 := by omega
  have y1 : (0 : Int) ≤ k := by omega
  by_cases h : k = 4000
  · subst h
    go_enter Tryz.func101, Tryz.ntmps101
    go_wp2
    go_ret
    exact ⟨rfl, rfl⟩
  · have y2 : (k : Int) < 4000 := by omega
    have y3 : ¬ (4000 : Int) < k := by omega
    by_cases h0 : k = 0
    · subst h0
      go_enter Tryz.func101, Tryz.ntmps101
      go_wp2
      go_ret
      exact ⟨rfl, rfl⟩
    · have y4 : (0 : Int) < k := by omega
      go_enter Tryz.func101, Tryz.ntmps101
      go_wp2
      go_ret
      exact ⟨rfl, rfl⟩

structure RcI (d : Dv) (LL : List Ent) (k s : Nat) (d1 : Dv) (LL1 : List Ent) : Prop where
  dok : DvOK d1
  cnt : d1.cnt = d.cnt + s
  log : ∀ c0 : Nat, (c0 : Int) ≤ d.cnt → LogI LL c0 d.cnt.toNat → LogI LL1 c0 d1.cnt.toNat
  pot : LL1.length + (if d1.ta = true then 1 else 0) ≤ LL.length + (if d.ta = true then 1 else 0) + k
theorem RcI.start {d : Dv} {LL : List Ent} (h : DvOK d) : RcI d LL 0 0 d LL := ⟨h, by simp, fun c0 _ h => h, by omega⟩
theorem entOK_of {c : Nat} (hc : c < 18446744073709551616) {k n : Int} {s : ByteArray} (hk : 1 ≤ k ∧ k ≤ 6) (hn : Wd n) (hs : s.size ≤ 200) : EntOK ⟨c, k, n, s⟩ :=
  ⟨hc, by dsimp only; omega, by dsimp only; omega, hn.1, hn.2, by dsimp only; omega⟩
theorem RcI.offer {d : Dv} {LL : List Ent} {k s : Nat} {d1 : Dv} {LL1 : List Ent} {x : Evt} {d2 : Dv} {LL2 : List Ent} (h : RcI d LL k s d1 LL1) (ho : OffD d1 LL1 x d2 LL2) (hv : EvtV x) :
    RcI d LL (k + 1) s d2 LL2 ∧ (x.k = 2 → RcI d LL k s d2 LL2) := by
  have hlog : ∀ c0 : Nat, (c0 : Int) ≤ d.cnt → LogI LL c0 d.cnt.toNat → LogI LL2 c0 d2.cnt.toNat := by
    intro c0 hc0 hl
    have h1 := h.log c0 hc0 hl
    have hb := h.dok.cnt
    have hcs := h.cnt
    rw [ho.cnt]
    rcases ho.log with rfl | ⟨rfl, _⟩
    · exact h1
    · exact h1.snoc (by omega) rfl (entOK_of (by omega) ⟨by have := hv.k; omega, hv.k.2⟩ hv.n hv.s) hv.ok _ (Nat.le_refl _) (fun hk => by have := hv.k; dsimp only at hk; omega)
  have hp := h.pot
  have ha := ho.arm
  refine ⟨⟨ho.dok, by rw [ho.cnt]; exact h.cnt, hlog, ?_⟩, fun hk => ⟨ho.dok, by rw [ho.cnt]; exact h.cnt, hlog, ?_⟩⟩
  · rcases ho.log with rfl | ⟨rfl, _⟩
    · cases h2 : d2.ta
      · simp only [Bool.false_eq_true, if_false]; omega
      · rw [ha h2] at hp; simp only [if_true] at hp ⊢; omega
    · rw [List.length_append, List.length_singleton]
      cases h2 : d2.ta
      · simp only [Bool.false_eq_true, if_false]; omega
      · rw [ha h2] at hp; simp only [if_true] at hp ⊢; omega
  · rcases ho.log with rfl | ⟨rfl, h3⟩
    · cases h2 : d2.ta
      · simp only [Bool.false_eq_true, if_false]; omega
      · rw [ha h2] at hp; simp only [if_true] at hp ⊢; omega
    · obtain ⟨h4, h5⟩ := h3 hk
      rw [h4] at hp
      rw [List.length_append, List.length_singleton, h5]
      simp only [Bool.false_eq_true, if_false, if_true] at hp ⊢
      omega
theorem RcI.step {d : Dv} {LL : List Ent} {k s : Nat} {d1 : Dv} {LL1 : List Ent} {C C' : List Int} {L : List Int} {d2 : Dv} (h : RcI d LL k s d1 LL1) (ha : AdvD C d1 L C' d2) : RcI d LL (k + 1) (s + 1) d2 LL1 := by
  have hp := h.pot
  refine ⟨ha.dok, by rw [ha.cnt, h.cnt]; push_cast; omega, fun c0 hc0 hl => (h.log c0 hc0 hl).mono (by rw [ha.cnt]; have := h.dok.cnt.1; omega), ?_⟩
  cases d2.ta
  · simp only [Bool.false_eq_true, if_false]; omega
  · simp only [if_true]; omega
theorem RcI.clock {d : Dv} {LL : List Ent} {k s : Nat} {d1 : Dv} {LL1 : List Ent} {C C' : List Int} {L : List Int} {d2 : Dv} (h : RcI d LL k s d1 LL1) (ha : AdvD C d1 L C' d2) (hi : InNext (intrL C d1) L) {n : Int} (hn : Wd n) :
    RcI d LL (k + 1) (s + 1) d2 (LL1 ++ [⟨d1.cnt.toNat, 1, n, ⟨#[]⟩⟩]) := by
  have hp := h.pot
  have hb := h.dok.cnt
  have hcs := h.cnt
  refine ⟨ha.dok, by rw [ha.cnt, h.cnt]; push_cast; omega, fun c0 hc0 hl => ?_, ?_⟩
  · have h1 := h.log c0 hc0 hl
    exact h1.snoc (by omega) rfl (entOK_of (by omega) ⟨by decide, by decide⟩ hn (by decide)) (by simp [Enc.okX, Ev.ok, Ev.okE]) _ (by rw [ha.cnt]; omega) (fun _ => by rw [ha.cnt]; omega)
  · rw [List.length_append, List.length_singleton]
    cases h2 : d2.ta
    · simp only [Bool.false_eq_true, if_false]; omega
    · rw [ha.arm hi h2] at hp; simp only [if_true] at hp ⊢; omega
theorem RcI.len {d : Dv} {LL : List Ent} {k s : Nat} {d1 : Dv} {LL1 : List Ent} (h : RcI d LL k s d1 LL1) : LL1.length ≤ LL.length + 1 + k := by
  have := h.pot
  split at this <;> split at this <;> omega
theorem row_one {α : Type} {e : TypeId} {s : Nat} {f : α → List Value} {base : Nat} {w : World} {v : Value} {L : List α} (h : Own e s f base w v L) : v.oneCell' = true := by
  obtain ⟨A, cap, rfl, _⟩ := h.shape
  rfl
theorem evtV_timer : EvtV ⟨2, 0, ⟨#[]⟩⟩ := ⟨⟨by decide, by decide⟩, ⟨by decide, by decide⟩, by decide, by simp [Ev.ok, Ev.okE]⟩
def AdwTo (d : Dv) (LL : List Ent) (QL : List Evt) (w : World) (e : Ending) (w' : World) : Prop :=
  ∃ (C' : List Int) (g : Nat) (d' : Dv) (clk' : Int) (lv qv vo : Value) (LL' : List Ent) (QL' : List Evt) (LO : List Ou) (M' : List Int), e = .returned (.tuple #[recV C' g 256 d' clk' lv qv, vo]) ∧ CpuOK C' ∧ MemOK M' ∧ Wd clk' ∧ LO.length ≤ 11 ∧ (∀ x ∈ QL', x ∈ QL) ∧ QL'.length ≤ QL.length ∧
    (∃ s, s ≤ 11 ∧ RcI d LL (QL.length - QL'.length + s) s d' LL') ∧ Mem w w' [memN w.heap.size g 256 M', logR w.heap.size lv LL', queR w.heap.size qv QL', outR w.heap.size vo LO]
set_option maxHeartbeats 16000000 in
theorem advance19_any (C : List Int) (A : Option Addr) (cap : Nat) (d : Dv) (clk : Int) (A1 A2 : Option Addr) (n1 c1 n2 c2 : Nat) (M : List Int) (LL : List Ent) (QL : List Evt) (k : Nat) (ck : Int) (hk : k ≤ 11) (hck : Wd ck) (hclk : Wd clk) (hQ : ∀ x ∈ QL, EvtV x) (hC : CpuOK C) (hd : DvOK d) (hcn : d.cnt ≤ 100000) (hM : MemOK M) (w : World)
    (h : Sl 1 uC w A 256 M) (h1 : Sl 4 entC w A1 n1 LL) (h2 : Sl 3 evtC w A2 n2 QL) (hn1 : n1 ≤ 1000) (hn2 : n2 ≤ 1000) :
    Calls Tryz.prog 69 #[.agg (mcA C (.slice A 256 cap) d [.int .u32 clk, .slice A1 n1 c1, .slice A2 n2 c2]), .int .i64 (k : Int), .int .u32 ck] w (AdwTo d LL QL w) := by
  have HCL := Lib.hid hC.len
  have HO := Lib.hid fun (w' : World) (h' : Held w w') => own19_any C A 256 cap d clk A1 A2 n1 c1 n2 c2 M LL QL hC.len (by decide) w' (h.held h') (h1.held h') (h2.held h') (by omega) (by omega)
  unfold OwrTo at HO
  have HMA := Lib.hid fun (g : Nat) w => may_any C (some ⟨g, 0, none⟩) 256 d hC hd w
  have M0 := Lib.hid (((Mem.start w).allocF (b := w.heap.size) rfl (mcA C (.slice A 256 cap) d [.int .u32 clk, .slice A1 n1 c1, .slice A2 n2 c2]) 61).allocF (b := w.heap.size + 1) (by simp) z52 61)
  have HB := Lib.hid (And.intro hC (And.intro hd (And.intro hcn (And.intro hM (And.intro hck hclk)))))
  have HQ := Lib.hid hQ
  have HN := Lib.hid (show LL.length ≤ 1000 ∧ QL.length ≤ 1000 from ⟨by rw [h1.1]; exact hn1, by rw [h2.1]; exact hn2⟩)
  have zk : (k : Int) ≤ 11 := by omega
  have zk0 : (0 : Int) ≤ k := by omega
  have HLI := Lib.hid fun w => limited_any k (by omega) w
  clear hC h h1 h2 hn1 hn2 hd hcn hM hck hclk hQ hk
  go_enter Tryz.func69, Tryz.ntmps69
  go_wp2_with (show wpList _ _ _ ((⟨_, Op.load 61 _, _, _, _, _⟩ : Oper) :: _) _ _; refine Mem.go_loadAll 61 rfl rfl rfl 1 M0.out rfl uRec (by rw [mc_size HCL.out]; exact sRec) ?_)
  refine (HO.out _ M0.out.held).mono ?_
  rintro e w3 ⟨g, B1, B2, k1, k2, rfl, h3⟩
  have M3 := Lib.hid (M0.out.threeF h3)
  clear h3 HO
  have HX1 := Lib.hid (HX1_of clk (.slice B1 LL.length k1) (.slice B2 QL.length k2) rfl rfl)
  go_upto_region 2 with (show wpList _ _ _ ((⟨_, Op.store 61 _ _, _, _, _, _⟩ : Oper) :: _) _ _; refine Mem.go_storeAll 61 rfl rfl rfl rfl 4 M3.out rfl (by rw [mc_size HCL.out]; exact sRec) (by first | (rw [mc_size HCL.out]; done) | (rw [mc_size HCL.out]; rfl) | (rw [mc_size HCL.out, mc_size HCL.out]; done) | (rw [mc_size HCL.out, mc_size HCL.out]; rfl)) (mc_one _ rfl _ HX1.out) ?_; intro w4 MM'; (try simp only [List.set_cons_zero, List.set_cons_succ] at MM'); have M4 := Lib.hid MM'; clear MM')
  have HSZ : Is (mcA C (memS g 256) d (recX clk (.slice B1 LL.length k1) (.slice B2 QL.length k2))).size (49 + (recX clk (.slice B1 LL.length k1) (.slice B2 QL.length k2)).length) := ⟨mc_size HCL.out⟩
  go_wp2_with (show wpList _ _ _ ((⟨_, Op.load 57 _, _, _, _, _⟩ : Oper) :: _) _ _; refine Mem.go_loadPart 57 rfl rfl 0 49 rfl 4 M4.out rfl uMac sMac (by rw [HSZ.out]; exact Nat.le_trans (by decide : 0 + 49 ≤ 49) (Nat.le_add_right _ _)) (take_all HCL.out) ?_)
  refine (HMA.out g _).mono ?_
  rintro e w5 ⟨b, rfl, h5⟩
  have M5 := Lib.hid (M4.out.keep h5)
  clear h5
  cases b
  · go_wp2_with (first | (show wpList _ _ _ ((⟨_, Op.load 61 _, _, _, _, _⟩ : Oper) :: _) _ _; refine Mem.go_loadAll 61 rfl rfl rfl 4 M5.out rfl uRec (by rw [mc_size HCL.out]; exact sRec) ?_) | (show wpList _ _ _ ((⟨_, Op.store 61 _ _, _, _, _, _⟩ : Oper) :: _) _ _; refine Mem.go_storeAll 61 rfl rfl rfl rfl 3 M5.out rfl (by rw [mc_size HCL.out]; exact sRec) (by first | (rw [mc_size HCL.out]; done) | (rw [mc_size HCL.out]; rfl) | (rw [mc_size HCL.out, mc_size HCL.out]; done) | (rw [mc_size HCL.out, mc_size HCL.out]; rfl)) (mc_one _ rfl _ HX1.out) ?_; intro w6 MM'; (try simp only [List.set_cons_zero, List.set_cons_succ] at MM'); have M6 := Lib.hid MM'; clear MM'))
    refine bodyPost_ret (Bx.res_ct Tryz.results69 rfl (load_rec (mc_size HCL.out) (M6.out.blk 3 rfl))) rfl ?_
    exact ⟨C, g, d, clk, _, _, _, LL, QL, [], M, rfl, HB.out.1, HB.out.2.2.2.1, HB.out.2.2.2.2.2, by decide, fun _ h => h, Nat.le_refl _, ⟨0, by decide, by rw [Nat.sub_self]; exact RcI.start HB.out.2.1⟩, (M6.out.take 3).nilRow⟩
  · obtain ⟨lv, hlv⟩ : ∃ lv : Value, .slice B1 LL.length k1 = lv := ⟨_, rfl⟩
    have M6 := Lib.hid M5.out.up4.dn1
    have x49 := M6.out.cell 1 rfl 49 (mc_x (X := recX clk (.slice B1 LL.length k1) (.slice B2 QL.length k2)) HCL.out (j := 0) rfl)
    have f49 := M6.out.free 1 rfl 49
    rw [hlv] at M6
    go_upto_region 5 with fail

    obtain ⟨clk2, hcl2⟩ : ∃ c : Int, (if clk < ck then ck else clk) = c := ⟨_, rfl⟩
    have hclk2 : Wd clk2 := by rw [← hcl2]; split; exact HB.out.2.2.2.2.1; exact HB.out.2.2.2.2.2
    rw [hcl2]
    have MM' := M6.out.put 1 rfl 49 (.int .u32 clk2)
    rw [set_x HCL.out 0] at MM'
    (try simp only [List.set_cons_zero, List.set_cons_succ] at MM')
    have M7 := Lib.hid MM'
    have HCK := Lib.hid hclk2
    clear MM' hcl2 hclk2 M3 M4 M5 M6 x49 f49 HSZ HX1 M0 HMA
    obtain ⟨w7, hw7⟩ : ∃ w' : World, (World.setCell w5 ⟨w.heap.size, 49, none⟩ (.int .u32 clk2)) = w' := ⟨_, rfl⟩
    rw [hw7] at M7 ⊢
    clear hw7
    clear w3 w4 w5
    obtain ⟨nq, hnq⟩ : ∃ nq : Nat, QL.length = nq := ⟨_, rfl⟩
    rw [hnq] at M7 ⊢
    have HNQ : Is QL.length nq := ⟨hnq⟩
    have hnb : nq ≤ 1000 := by have := HN.out.2; omega
    clear hnq
    go_wp2_with fail
    go_loopw [8] (fun u8 wr => ∃ (q : Nat) (d1 : Dv) (lv1 : Value) (LL1 : List Ent) (L1 : List Int), u8 = .int .i64 (q : Int) ∧ q ≤ nq ∧ RcI d LL q 0 d1 LL1 ∧ MemOK L1 ∧ Mem w wr [memN w.heap.size g 256 L1, macB w.heap.size 61 C (memS g 256) d1 (recX clk2 lv1 (.slice B2 nq k2)), logR w.heap.size lv1 LL1, queR w.heap.size (.slice B2 nq k2) QL, .box (w.heap.size + 1) z52 61]) (fun u8 _ => nq - (RowKit.intOf u8).toNat)
    case atStart => exact ⟨0, d, lv, LL, M, rfl, Nat.zero_le _, RcI.start HB.out.2.1, HB.out.2.2.2.1, M7.out⟩
    case round =>
      obtain ⟨q, d1, lv1, LL1, L1, rfl, hq, hI, hL1, hM⟩ := hrel
      have M8 := Lib.hid hM
      have HI := Lib.hid hI
      have HL1 := Lib.hid hL1
      clear hM hI hL1 M7
      have x51 := M8.out.cell 1 rfl 51 (mc_x (X := recX clk2 lv1 (.slice B2 nq k2)) HCL.out (j := 2) rfl)
      by_cases hlt : q < nq
      · obtain ⟨gq, x, rfl, _, hgl, hx, hc⟩ := M8.out.slot 3 rfl evtC_len (by decide) (k := q) (by rw [HNQ.out]; exact hlt)
        have x0 := (hc 0 (by decide)).2 _ rfl
        rw [Nat.add_zero] at x0
        have x1 := (hc 1 (by decide)).2 _ rfl
        have x2 := (hc 2 (by decide)).2 _ rfl
        have hxv := HQ.out x (List.mem_of_getElem? hx)
        have z2 : (q : Int) < nq := by omega
        have HOF := Lib.hid fun (w' : World) (h : Mem w w' [memN w.heap.size g 256 L1, macB w.heap.size 61 C (memS g 256) d1 (recX clk2 lv1 (.slice (some ⟨gq, 0, none⟩) nq k2)), logR w.heap.size lv1 LL1, queR w.heap.size (.slice (some ⟨gq, 0, none⟩) nq k2) QL, .box (w.heap.size + 1) z52 61]) => offer_any w w.heap.size 61 C g 256 d1 clk2 lv1 _ LL1 _ L1 x hxv.n HCL.out HI.out.dok HL1.out (by have := HI.out.len; have := HN.out.1; omega) w' h
        unfold OffTo at HOF
        have HXV := Lib.hid hxv
        clear hc hx hxv
        go_wp2_with fail
        refine (HOF.out _ M8.out).mono ?_
        rintro e w9 ⟨d2, lv2, LL2, L2, rfl, ho, hL2, h9⟩
        have HO2 := Lib.hid ho
        have HL2 := Lib.hid hL2
        have M9 := Lib.hid h9
        clear ho hL2 h9
        go_wp2_with fail
        go_roundw
        case rel => exact ⟨q + 1, d2, lv2, LL2, L2, by go_num, by omega, (HI.out.offer HO2.out HXV.out).1, HL2.out, M9.out⟩
        case measure => (simp [RowKit.intOf]) <;> omega
      · obtain rfl : q = nq := by omega
        have z2 : ¬ (q : Int) < q := by omega
        have f51 := M8.out.free 1 rfl 51
        clear hlt
        go_upto_region 10 with fail
        have MM' := M8.out.put 1 rfl 51 (.slice none 0 0)
        rw [set_x HCL.out 2] at MM'
        (try simp only [List.set_cons_zero, List.set_cons_succ] at MM')
        have M9 : Hid (Mem w _ [memN w.heap.size g 256 L1, macB w.heap.size 61 C (memS g 256) d1 (recX clk2 lv1 (.slice none 0 0)), logR w.heap.size lv1 LL1, .box (w.heap.size + 1) z52 61, outR w.heap.size (.slice none 0 0) []]) := Lib.hid (show Mem w _ [memN w.heap.size g 256 L1, macB w.heap.size 61 C (memS g 256) d1 (recX clk2 lv1 (.slice none 0 0)), logR w.heap.size lv1 LL1, .box (w.heap.size + 1) z52 61] from MM'.pick [0, 1, 2, 4] (by decide) rfl).nilRow
        clear MM' x51 f51 M8
        obtain ⟨w9, hw9⟩ : ∃ w' : World, (World.setCell wr ⟨w.heap.size, 51, none⟩ (.slice none 0 0)) = w' := ⟨_, rfl⟩
        rw [hw9] at M9 ⊢
        clear hw9
        iterate 8 go_step
        go_cut [9] (fun v9 wx => ∃ (C1 : List Int) (d1 : Dv) (clk1 : Int) (lv1 : Value) (LL1 : List Ent) (L1 : List Int) (LO : List Ou) (i : Nat), i ≤ 11 ∧ LO.length ≤ i ∧ RcI d LL (q + i) i d1 LL1 ∧ CpuOK C1 ∧ MemOK L1 ∧ Wd clk1 ∧ Mem w wx [memN w.heap.size g 256 L1, macB w.heap.size 61 C1 (memS g 256) d1 (recX clk1 lv1 (.slice none 0 0)), logR w.heap.size lv1 LL1, .box (w.heap.size + 1) z52 61, outR w.heap.size v9 LO])
        case first =>
          go_wp2_with fail
          go_loopw [9, 10] (fun u9 u10 wr => ∃ (C1 : List Int) (d1 : Dv) (clk1 : Int) (lv1 : Value) (LL1 : List Ent) (L1 : List Int) (LO : List Ou) (i : Nat), u10 = .int .i64 (i : Int) ∧ i ≤ k ∧ LO.length ≤ i ∧ RcI d LL (q + i) i d1 LL1 ∧ CpuOK C1 ∧ MemOK L1 ∧ Wd clk1 ∧ Mem w wr [memN w.heap.size g 256 L1, macB w.heap.size 61 C1 (memS g 256) d1 (recX clk1 lv1 (.slice none 0 0)), logR w.heap.size lv1 LL1, .box (w.heap.size + 1) z52 61, outR w.heap.size u9 LO]) (fun _ u10 _ => k - (RowKit.intOf u10).toNat)
          case atStart => exact ⟨C, d1, clk2, lv1, LL1, L1, [], 0, rfl, Nat.zero_le _, Nat.zero_le _, HI.out, HB.out.1, HL1.out, HCK.out, M9.out⟩
          case round =>
            obtain ⟨C1, d2, clk1, lv2, LL2, L2, LO, i, rfl, hi, hlo, hI2, hC1, hL2, hck1, hM⟩ := hrel
            obtain ⟨A9, cap9, rfl, hcap9, _⟩ := (hM.row 4 rfl).shape
            have M10 := Lib.hid hM
            have HC1 := Lib.hid hC1
            have HCL := Lib.hid hC1.len
            have HI2 := Lib.hid hI2
            have HL2 := Lib.hid hL2
            have HK1 := Lib.hid hck1
            have HSZ : Is (mcA C1 (memS g 256) d2 (recX clk1 lv2 (.slice none 0 0))).size (49 + (recX clk1 lv2 (.slice none 0 0)).length) := ⟨mc_size HCL.out⟩
            have hlq := HI2.out.len
            have hlq2 := HN.out.1
            clear hM hI2 hC1 hL2 hck1 M9 HI HL1
            by_cases hlt : i < k
            · have z3 : (i : Int) < k := by omega
              have x49 := M10.out.cell 1 rfl 49 (mc_x (X := recX clk1 lv2 (.slice none 0 0)) HCL.out (j := 0) rfl)
              go_wp2_with fail
              refine (HLI.out _).mono ?_
              rintro e w2 ⟨rfl, rfl⟩
              go_wp2_with (show wpList _ _ _ ((⟨_, Op.load 49 _, _, _, _, _⟩ : Oper) :: _) _ _; refine Mem.go_loadPart 49 rfl rfl 27 3 rfl 1 M10.out rfl uTim sTim (by rw [HSZ.out]; exact Nat.le_trans (by decide : 27 + 3 ≤ 49) (Nat.le_add_right _ _)) (take_tim HCL.out) ?_)
              refine (due_any _ _ _ _ _).mono ?_
              rintro e w11 ⟨b, rfl, h11⟩
              have M11 := Lib.hid (M10.out.keep h11)
              clear h11 x49
              go_upto_if 48 with fail
              go_cut [] (fun wx => ∃ (d3 : Dv) (lv3 : Value) (LL3 : List Ent) (L3 : List Int), RcI d LL (q + i) i d3 LL3 ∧ MemOK L3 ∧ Mem w wx [memN w.heap.size g 256 L3, macB w.heap.size 61 C1 (memS g 256) d3 (recX clk1 (lv3) (.slice none 0 0)), logR w.heap.size (lv3) LL3, .box (w.heap.size + 1) z52 61, outR w.heap.size (.slice A9 LO.length cap9) LO])
              case first =>
                cases b
                · go_wp2_with fail
                  go_meet
                  case rel => exact ⟨d2, lv2, LL2, L2, HI2.out, HL2.out, M11.out⟩
                · have HOF := Lib.hid fun (w' : World) (h : Mem w w' [memN w.heap.size g 256 L2, macB w.heap.size 61 C1 (memS g 256) d2 (recX clk1 (lv2) (.slice none 0 0)), logR w.heap.size (lv2) LL2, .box (w.heap.size + 1) z52 61, outR w.heap.size (.slice A9 LO.length cap9) LO]) => offer_any w w.heap.size 61 C1 g 256 d2 clk1 lv2 _ LL2 _ L2 ⟨2, 0, ⟨#[]⟩⟩ ⟨by decide, by decide⟩ HCL.out HI2.out.dok HL2.out (by omega) w' h
                  unfold OffTo at HOF
                  go_wp2_with fail
                  refine (HOF.out _ M11.out).mono ?_
                  rintro e w12 ⟨d3, lv3, LL3, L3, rfl, ho, hL3, h12⟩
                  have HO2 := Lib.hid ho
                  have HL3 := Lib.hid hL3
                  have M12 := Lib.hid h12
                  clear ho hL3 h12
                  go_wp2_with fail
                  go_meet
                  case rel => exact ⟨d3, lv3, LL3, L3, (HI2.out.offer HO2.out evtV_timer).2 rfl, HL3.out, M12.out⟩
              case rest =>
                obtain ⟨d3, lv3, LL3, L3, hI3, hL3, hM3⟩ := hcut
                obtain ⟨A5, cap5, rfl, hcap5, _⟩ := (hM3.row 2 rfl).shape
                have M12 := Lib.hid hM3
                have HI3 := Lib.hid hI3
                have HL3 := Lib.hid hL3
                have hlq3 := HI3.out.len
                clear hM3 hI3 hL3 M10 M11 HI2 HL2 HSZ hlq
                have HSZ : Is (mcA C1 (memS g 256) d3 (recX clk1 (.slice A5 LL3.length cap5) (.slice none 0 0))).size (49 + (recX clk1 (.slice A5 LL3.length cap5) (.slice none 0 0)).length) := ⟨mc_size HCL.out⟩
                go_wp2_with (show wpList _ _ _ ((⟨_, Op.load 57 _, _, _, _, _⟩ : Oper) :: _) _ _; refine Mem.go_loadPart 57 rfl rfl 0 49 rfl 1 M12.out rfl uMac sMac (by rw [HSZ.out]; exact Nat.le_trans (by decide : 0 + 49 ≤ 49) (Nat.le_add_right _ _)) (take_all HCL.out) ?_)
                refine (stuck_any C1 (some ⟨g, 0, none⟩) 256 d3 HC1.out HI3.out.dok _).mono ?_
                rintro e w13 ⟨b, rfl, h13⟩
                have M13 := Lib.hid (M12.out.keep h13)
                clear h13 M12
                cases b
                · go_wp2_with (show wpList _ _ _ ((⟨_, Op.load 57 _, _, _, _, _⟩ : Oper) :: _) _ _; refine Mem.go_loadPart 57 rfl rfl 0 49 rfl 1 M13.out rfl uMac sMac (by rw [HSZ.out]; exact Nat.le_trans (by decide : 0 + 49 ≤ 49) (Nat.le_add_right _ _)) (take_all HCL.out) ?_)
                  refine (readsclock_any C1 (some ⟨g, 0, none⟩) 256 d3 L3 HC1.out HI3.out.dok HL3.out (Nat.le_refl _) _ ((M13.out.row 0 rfl).reads uC_len).1).mono ?_
                  rintro e w14 ⟨b, rfl, hin, h14⟩
                  have M14 := Lib.hid (M13.out.keep h14)
                  have HIN := Lib.hid hin
                  clear h14 M13 hin
                  go_upto_if 56 with fail
                  go_cut [] (fun wx => ∃ (lv4 : Value) (LL4 : List Ent), (LL4 = LL3 ∨ (LL4 = LL3 ++ [⟨d3.cnt.toNat, 1, clk1, ⟨#[]⟩⟩] ∧ InNext (intrL C1 d3) L3)) ∧ Mem w wx [memN w.heap.size g 256 L3, macB w.heap.size 61 C1 (memS g 256) d3 (recX clk1 (lv4) (.slice none 0 0)), logR w.heap.size (lv4) LL4, .box (w.heap.size + 1) z52 61, outR w.heap.size (.slice A9 LO.length cap9) LO])
                  case first =>
                    cases b
                    · go_wp2_with fail
                      go_meet
                      case rel => exact ⟨_, LL3, .inl rfl, M14.out⟩
                    · obtain ⟨c, hc⟩ : ∃ c : Nat, d3.cnt = (c : Int) := ⟨d3.cnt.toNat, by have := HI3.out.dok.cnt.1; omega⟩
                      have hcn : d3.cnt.toNat = c := by rw [hc]; rfl
                      have HCN := Lib.hid hcn
                      have c46 := mc_dv (mv := memV g 256) (X := recX clk1 (.slice A5 LL3.length cap5) (.slice none 0 0)) HCL.out (j := 20) (by decide) (v := .int .u64 d3.cnt) rfl
                      rw [hc] at c46
                      have x46 := M14.out.cell 1 rfl 46 c46
                      have x49 := M14.out.cell 1 rfl 49 (mc_x (X := recX clk1 (.slice A5 LL3.length cap5) (.slice none 0 0)) HCL.out (j := 0) rfl)
                      have x50 := M14.out.cell 1 rfl 50 (mc_x (X := recX clk1 (.slice A5 LL3.length cap5) (.slice none 0 0)) HCL.out (j := 1) rfl)
                      have l50 := M14.out.lt 1 rfl
                      have HC46 := Lib.hid c46
                      clear hc hcn c46
                      go_wp2_with (at_builtin; refine Mem.wp_apps (M14.out.skip _) 2 rfl rfl _ _ 25 rfl _ 40 Tryz.underlying25 info_ent rfl (by decide) entC_len entC_one [⟨c, 1, clk1, ⟨#[]⟩⟩] ⟨w14.heap.size, 0, none⟩ 1 1 rfl rfl rfl (by decide) (cells_new w14 rfl #[.int .u64 (c : Int), .int .i64 1, .int .u32 clk1, .string ⟨#[]⟩] 68) LL3.length rfl (by omega) (by decide) ?_; intro g6 cp6 w6 MM'; (try simp only [List.set_cons_zero, List.set_cons_succ] at MM'); have M15 := Lib.hid MM'; have e50 := MM'.cell 1 rfl 50 (mc_x (X := recX clk1 (.slice A5 LL3.length cap5) (.slice none 0 0)) HCL.out (j := 1) rfl); have g50 := MM'.free 1 rfl 50; clear MM' x46 x49 x50 l50)
                      have MM' := M15.out.put 1 rfl 50 (.slice (some ⟨g6, 0, none⟩) (LL3.length + 1) cp6)
                      rw [set_x HCL.out 1] at MM'
                      (try simp only [List.set_cons_zero, List.set_cons_succ] at MM')
                      have M16 := Lib.hid MM'
                      clear MM'
                      go_meet
                      case rel =>
                        refine ⟨.slice (some ⟨g6, 0, none⟩) (LL3.length + 1) cp6, LL3 ++ [⟨c, 1, clk1, ⟨#[]⟩⟩], .inr ⟨by rw [HCN.out], by first | exact HIN.out rfl | exact HIN.out trivial⟩, ?_⟩
                        exact M16.out
                  case rest =>
                    obtain ⟨lv4, LL4, hor, hM4⟩ := hcut
                    have M17 := Lib.hid hM4
                    have HOR := Lib.hid hor
                    clear hM4 hor M14 HIN
                    obtain ⟨A4, cap4, rfl, hcap4, _⟩ := (M17.out.row 2 rfl).shape
                    have HAV := Lib.hid fun (w' : World) (h : Mem w w' [memN w.heap.size g 256 L3, macB w.heap.size 61 C1 (memS g 256) d3 (recX clk1 (.slice A4 LL4.length cap4) (.slice none 0 0)), logR w.heap.size (.slice A4 LL4.length cap4) LL4, .box (w.heap.size + 1) z52 61, outR w.heap.size (.slice A9 LO.length cap9) LO]) => advance7_any w w.heap.size 61 C1 g 256 d3 _ _ L3 clk1 HK1.out HC1.out HI3.out.dok (by have := HI3.out.cnt; have := HB.out.2.2.1; omega) HL3.out w' h
                    unfold AdvTo at HAV
                    have x49 := M17.out.cell 1 rfl 49 (mc_x (X := recX clk1 (.slice A4 LL4.length cap4) (.slice none 0 0)) HCL.out (j := 0) rfl)
                    go_wp2_with fail
                    refine (HAV.out _ M17.out).mono ?_
                    rintro e w16 ⟨C2, d5, vo, LO2, L5, rfl, hA, hlo2, hL5, h16⟩
                    obtain ⟨A6, cap6, rfl, hcap6, _⟩ := (h16.row 0 rfl).shape
                    have M18 := Lib.hid h16
                    have HA := Lib.hid hA
                    have HL5 := Lib.hid hL5
                    have HCL5 := Lib.hid hA.cpu.len
                    clear hA h16 hL5 M17 x49
                    go_wp2_with (at_builtin; refine Mem.wp_cat M18.out 5 rfl rfl _ _ _ rfl _ 40 Tryz.underlying62 info_out rfl (by decide) oC_len oC_one LO2 A6 LO2.length cap6 rfl rfl ((M18.out.row 0 rfl).reads oC_len).1 rfl (by omega) (by decide) ?_; intro A7 cap7 w17 MM' hA7; (try simp only [List.set_cons_zero, List.set_cons_succ] at MM'); have M19 := Lib.hid MM'; have x49 := MM'.cell 2 rfl 49 (mc_x (X := recX clk1 (.slice A4 LL4.length cap4) (.slice none 0 0)) HCL5.out (j := 0) rfl); have g49 := MM'.free 2 rfl 49; clear MM' hA7)
                    have MM' := M19.out.put 2 rfl 49 (.int .u32 ((clk1 + 1) % 4294967296))
                    rw [set_x HCL5.out 0] at MM'
                    (try simp only [List.set_cons_zero, List.set_cons_succ] at MM')
                    have hR : RcI d LL (q + (i + 1)) (i + 1) d5 LL4 := by
                      rcases HOR.out with h | ⟨h, hin⟩
                      · rw [h]; exact HI3.out.step HA.out
                      · rw [h]; exact HI3.out.clock HA.out hin HK1.out
                    refine ⟨⟨C2, d5, (clk1 + 1) % 4294967296, _, LL4, L5, LO ++ LO2, i + 1, by go_num, by omega, by rw [List.length_append]; omega, hR, HA.out.cpu, HL5.out, ⟨by omega, by omega⟩, MM'.pick [1, 2, 3, 4, 5] (by decide) rfl⟩, ?_⟩
                    (simp [RowKit.intOf]) <;> omega
                · go_wp2_with fail
                  go_meet
                  case rel => exact ⟨C1, d3, clk1, _, LL3, L3, LO, i, by omega, hlo, HI3.out, HC1.out, HL3.out, HK1.out, M13.out⟩
            · have z3 : ¬ (i : Int) < k := by omega
              go_wp2_with fail
              refine (HLI.out _).mono ?_
              rintro e w2 ⟨rfl, rfl⟩
              go_wp2_with fail
              go_meet
              case rel => exact ⟨C1, d2, clk1, lv2, LL2, L2, LO, i, by omega, hlo, HI2.out, HC1.out, HL2.out, HK1.out, M10.out⟩
        case rest =>
          obtain ⟨C1, d2, clk1, lv2, LL2, L2, LO, i, hi, hlo, hI2, hC1, hL2, hck1, hM⟩ := hcut
          have HX1 := Lib.hid (HX1_of clk1 lv2 (.slice none 0 0) (row_one (hM.row 2 rfl)) rfl)
          have M10 := Lib.hid hM
          have HC1 := Lib.hid hC1
          have HCL := Lib.hid hC1.len
          have HI2 := Lib.hid hI2
          have HL2 := Lib.hid hL2
          have HK1 := Lib.hid hck1
          clear hM hI2 hC1 hL2 hck1 M9 HI HL1
          go_wp2_with (first | (show wpList _ _ _ ((⟨_, Op.load 61 _, _, _, _, _⟩ : Oper) :: _) _ _; refine Mem.go_loadAll 61 rfl rfl rfl 1 M10.out rfl uRec (by rw [mc_size HCL.out]; exact sRec) ?_) | (show wpList _ _ _ ((⟨_, Op.store 61 _ _, _, _, _, _⟩ : Oper) :: _) _ _; refine Mem.go_storeAll 61 rfl rfl rfl rfl 3 M10.out rfl (by rw [mc_size HCL.out]; exact sRec) (by first | (rw [mc_size HCL.out]; done) | (rw [mc_size HCL.out]; rfl) | (rw [mc_size HCL.out, mc_size HCL.out]; done) | (rw [mc_size HCL.out, mc_size HCL.out]; rfl)) (mc_one _ rfl _ HX1.out) ?_; intro w11 MM'; (try simp only [List.set_cons_zero, List.set_cons_succ] at MM'); have M11 := Lib.hid MM'; clear MM'))
          refine bodyPost_ret (Bx.res_ct Tryz.results69 rfl (load_rec (mc_size HCL.out) (M11.out.blk 3 rfl))) rfl ?_
          exact ⟨C1, g, d2, clk1, lv2, .slice none 0 0, u9, LL2, [], LO, L2, rfl, HC1.out, HL2.out, HK1.out, by omega, (fun x h => by cases h), Nat.zero_le _, ⟨i, hi, by rw [List.length_nil, Nat.sub_zero, HNQ.out]; exact HI2.out⟩, M11.out.nilRow.pick [0, 2, 5, 4] (by decide) rfl⟩
end Ma
end Go.Proofs.YtdacgdokbfcgdaaGreat

namespace Go.Proofs.YtdacgdokbfcgdaaGreat
open Go.RowKit Go.BigFrame Go.Sort
namespace Evg
open Lgc Lg Rw
/-- Some valid event, no clock's. -/
def EvM (w : World) (e : Ending) (w' : World) : Prop := ∃ (k n : Int) (d : ByteArray), e = .returned (.agg #[.int .i64 k, .int .u32 n, .string d]) ∧ (2 ≤ k ∧ k ≤ 6) ∧ (0 ≤ n ∧ n ≤ 4294967295) ∧ d.size ≤ 200 ∧ Ev.ok k n d.data.toList = true ∧ Held w w'
theorem EvM.mk {w w' : World} {k n : Int} {d : ByteArray} (h1 : 2 ≤ k ∧ k ≤ 6) (h2 : 0 ≤ n ∧ n ≤ 4294967295) (h3 : d.size ≤ 200) (h5 : Ev.ok k n d.data.toList = true) (h4 : Held w w') : EvM w (.returned (.agg #[.int .i64 k, .int .u32 n, .string d])) w' := ⟨k, n, d, rfl, h1, h2, h3, h5, h4⟩
theorem ok3 {n : Int} (h : n ≤ 255) : Ev.ok 3 n [] = true := by simp [Ev.ok, Ev.okE, h]
theorem ok6 (n : Int) : Ev.ok 6 n [] = true := by simp [Ev.ok, Ev.okE]
theorem ok4 {l : List UInt8} (h : l.length = 128) : Ev.ok 4 1 l = true := by simp [Ev.ok, Ev.okE, h]
theorem ok5 {l : List UInt8} (h1 : 1 ≤ l.length) (h2 : l.length ≤ 128) : Ev.ok 5 0 l = true := by simp [Ev.ok, Ev.okE, h1, h2]
theorem held3 {W w : World} {b : Nat} (h : Held W w) (hb : W.heap.size ≤ b) (x y z : Value) : Held W (((w.setCell ⟨b, 0, none⟩ x).setCell ⟨b, 1, none⟩ y).setCell ⟨b, 2, none⟩ z) := ((h.set hb _).set hb _).set hb _
theorem res_c {fn : Func} {tmps : Array Value} {w : World} {a b : Nat} {t : TypeId} {v : Value} (hr : fn.results = #[.cell a t]) (ha : tmps.getD a undef = .pointer (some ⟨b, 0, none⟩)) (hl : (loadVar t ⟨b, 0, none⟩).run Tryz.prog w = .ok v w) : (results fn tmps).run Tryz.prog w = .ok v w := by
  unfold results
  rw [hr]
  simp only [List.mapM_toArray, List.mapM_cons, List.mapM_nil, ha, asAddr, pure_bind, Sem.run_bind, Sem.run_map, hl, Result.andThen_ok, Sem.run_pure, map_pure]
  rfl
/-- An event's box. -/
def EB (w : World) (b : Nat) (k n : Int) (d : ByteArray) : Prop := w.heap[b]? = some (.cells #[.int .i64 k, .int .u32 n, .string d] 66 (0, 0))
theorem EB.load {w : World} {b : Nat} {k n : Int} {d : ByteArray} (h : EB w b k n d) : (loadVar 66 ⟨b, 0, none⟩).run Tryz.prog w = .ok (.agg #[.int .i64 k, .int .u32 n, .string d]) w := by
  have c0 := box_cell h 0 rfl
  have c1 := box_cell h 1 rfl
  have c2 := box_cell h 2 rfl
  simp [go_sem, c0, c1, c2]
theorem EB.put {w : World} {b : Nat} {k n : Int} {d : ByteArray} (h : EB w b k n d) (k' n' : Int) (d' : ByteArray) : EB (((w.setCell ⟨b, 0, none⟩ (.int .i64 k')).setCell ⟨b, 1, none⟩ (.int .u32 n')).setCell ⟨b, 2, none⟩ (.string d')) b k' n' d' := by
  unfold EB at h ⊢
  rw [box_set (box_set (box_set h 0 _) 1 _) 2 _]; rfl
theorem EB.facts {w : World} {b : Nat} {k n : Int} {d : ByteArray} (h : EB w b k n d) : (w.cell? ⟨b, 0, none⟩ = some (.int .i64 k) ∧ w.cell? ⟨b, 1, none⟩ = some (.int .u32 n) ∧ w.cell? ⟨b, 2, none⟩ = some (.string d)) ∧ (w.frozen? ⟨b, 0, none⟩ = false ∧ w.frozen? ⟨b, 1, none⟩ = false ∧ w.frozen? ⟨b, 2, none⟩ = false) ∧ b < w.heap.size :=
  ⟨⟨box_cell h 0 rfl, box_cell h 1 rfl, box_cell h 2 rfl⟩, ⟨box_free h 0, box_free h 1, box_free h 2⟩, box_lt h⟩
theorem EB.new (w : World) (k n : Int) (d : ByteArray) : EB (w.alloc (.cells #[.int .i64 k, .int .u32 n, .string d] 66)) w.heap.size k n d := box_new _ _
set_option maxHeartbeats 2000000 in
theorem event_any (n : Int) (w : World) : Calls Tryz.prog 68 #[.int .i64 n] w (EvM w) := by
  obtain ⟨v, hv⟩ : ∃ v, Mk.mix n 2 = v := ⟨_, rfl⟩
  have hvl := Mk.mix_lt n 2
  have HM := Lib.hid (fun w => Mk.mix_any n 2 w)
  rw [hv] at hvl HM
  clear hv
  have a1 : bits .and .i64 ((v : Int) / 256) 255 = ((v / 256 &&& 255 : Nat) : Int) := Mk.and_i64 (v / 256) 255 (by omega) (by omega)
  have l1 : v / 256 &&& 255 ≤ 255 := Nat.and_le_right
  generalize v / 256 &&& 255 = x1 at a1 l1
  have hm : (v : Int) % 7 = 0 ∨ (v : Int) % 7 = 1 ∨ (v : Int) % 7 = 2 ∨ (v : Int) % 7 = 3 ∨ (v : Int) % 7 = 4 ∨ (v : Int) % 7 = 5 ∨ (v : Int) % 7 = 6 := by omega
  have hv0 : (0 : Int) ≤ v := by omega
  have hq1 : (0 : Int) ≤ (v : Int) / 256 := by omega
  have hq40 : ((v : Int) / 256) % 40 = ((v / 256 % 40 : Nat) : Int) := by omega
  have hq40b : v / 256 % 40 < 40 := Nat.mod_lt _ (by omega)
  have hq3 : ((v : Int) / 256) % 3 = ((v / 256 % 3 : Nat) : Int) := by omega
  have hq3b : v / 256 % 3 < 3 := Nat.mod_lt _ (by omega)
  generalize v / 256 % 40 = y40 at hq40 hq40b
  generalize v / 256 % 3 = y3 at hq3 hq3b
  have D128 : Hid (∀ w, Calls Tryz.prog 99 #[.int .i64 v, .int .i64 128] w fun e w' => ∃ l : List UInt8, l.length = 128 ∧ e = .returned (.string ⟨l.toArray⟩) ∧ Held w w') := fun w => Mk.data_any v 128 w (by decide)
  have D40 : Hid (∀ w, Calls Tryz.prog 99 #[.int .i64 v, .int .i64 (1 + y40)] w fun e w' => ∃ l : List UInt8, l.length = 1 + y40 ∧ e = .returned (.string ⟨l.toArray⟩) ∧ Held w w') := fun w => by
    have := Mk.data_any v (1 + y40) w (by omega)
    rw [Int.natCast_add] at this
    exact this
  have W0 := Lib.hid ((Held.refl w).alloc (.cells #[.int .i64 0, .int .u32 0, .string ⟨#[]⟩] 66))
  rcases hm with hm | hm | hm | hm | hm | hm | hm
  · clear a1 hq40 hq3
    go_enter Tryz.func68, Tryz.ntmps68
    go_wp2_with (go_at_call 66; refine (HM.out _).mono ?_; rintro e w' ⟨rfl, rfl⟩)
    refine bodyPost_ret (v := .agg #[.int .i64 2, .int .u32 0, .string ⟨#[]⟩]) (by simp [results, Tryz.results68, go_sem]) rfl (EvM.mk (by omega) (by omega) (by decide) (by first | rfl | exact ok3 (by omega) | exact ok6 _) ?_)
    first | exact W0.out | exact (Held.refl w).alloc _ | exact held3 W0.out (Nat.le_refl _) _ _ _
  · clear hq40 hq3
    go_enter Tryz.func68, Tryz.ntmps68
    go_wp2_with (go_at_call 66; refine (HM.out _).mono ?_; rintro e w' ⟨rfl, rfl⟩)
    refine bodyPost_ret (v := .agg #[.int .i64 3, .int .u32 x1, .string ⟨#[]⟩]) (by simp [results, Tryz.results68, go_sem]) rfl (EvM.mk (by omega) (by omega) (by decide) (by first | rfl | exact ok3 (by omega) | exact ok6 _) ?_)
    first | exact W0.out | exact (Held.refl w).alloc _ | exact held3 W0.out (Nat.le_refl _) _ _ _
  · clear hq40 hq3
    go_enter Tryz.func68, Tryz.ntmps68
    go_wp2_with (go_at_call 66; refine (HM.out _).mono ?_; rintro e w' ⟨rfl, rfl⟩)
    refine bodyPost_ret (v := .agg #[.int .i64 3, .int .u32 x1, .string ⟨#[]⟩]) (by simp [results, Tryz.results68, go_sem]) rfl (EvM.mk (by omega) (by omega) (by decide) (by first | rfl | exact ok3 (by omega) | exact ok6 _) ?_)
    first | exact W0.out | exact (Held.refl w).alloc _ | exact held3 W0.out (Nat.le_refl _) _ _ _
  · clear a1 hq40 hq3
    go_enter Tryz.func68, Tryz.ntmps68
    go_wp2_with (go_at_call 66; refine (HM.out _).mono ?_; rintro e w' ⟨rfl, rfl⟩)
    refine bodyPost_ret (v := .agg #[.int .i64 4, .int .u32 1, .string ⟨#[]⟩]) (by simp [results, Tryz.results68, go_sem]) rfl (EvM.mk (by omega) (by omega) (by decide) (by first | rfl | exact ok3 (by omega) | exact ok6 _) ?_)
    first | exact W0.out | exact (Held.refl w).alloc _ | exact held3 W0.out (Nat.le_refl _) _ _ _
  · clear a1 hq40 hq3
    go_enter Tryz.func68, Tryz.ntmps68
    go_wp2_with (first | (go_at_call 66; refine (HM.out _).mono ?_; rintro e w' ⟨rfl, rfl⟩) | (go_at_call 99; refine (D128.out _).mono ?_; rintro e w2 ⟨l, hl, rfl, h2⟩; have B2 := Lib.hid ((h2.block _ (by simp)).trans (EB.new w 0 0 ⟨#[]⟩)); obtain ⟨⟨c0, c1, c2⟩, ⟨f0, f1, f2⟩, hlt⟩ := EB.facts B2.out; have W2 := Lib.hid (W0.out.step h2); have HL := Lib.hid hl; clear h2 hl))
    refine bodyPost_ret (res_c Tryz.results68 rfl (EB.load (EB.put B2.out 4 1 ⟨l.toArray⟩))) rfl (EvM.mk (by omega) (by omega) (by rw [ba_size, HL.out]; omega) (by first | exact ok4 (by simpa using HL.out) | exact ok5 (by have := HL.out; simp only [List.toList_toArray]; omega) (by have := HL.out; simp only [List.toList_toArray]; omega)) ?_)
    exact held3 W2.out (Nat.le_refl _) _ _ _
  · clear a1 hq3
    go_enter Tryz.func68, Tryz.ntmps68
    go_wp2_with (first | (go_at_call 66; refine (HM.out _).mono ?_; rintro e w' ⟨rfl, rfl⟩) | (go_at_call 99; refine (D40.out _).mono ?_; rintro e w2 ⟨l, hl, rfl, h2⟩; have B2 := Lib.hid ((h2.block _ (by simp)).trans (EB.new w 0 0 ⟨#[]⟩)); obtain ⟨⟨c0, c1, c2⟩, ⟨f0, f1, f2⟩, hlt⟩ := EB.facts B2.out; have W2 := Lib.hid (W0.out.step h2); have HL := Lib.hid hl; clear h2 hl))
    refine bodyPost_ret (res_c Tryz.results68 rfl (EB.load (EB.put B2.out 5 0 ⟨l.toArray⟩))) rfl (EvM.mk (by omega) (by omega) (by rw [ba_size, HL.out]; omega) (by first | exact ok4 (by simpa using HL.out) | exact ok5 (by have := HL.out; simp only [List.toList_toArray]; omega) (by have := HL.out; simp only [List.toList_toArray]; omega)) ?_)
    exact held3 W2.out (Nat.le_refl _) _ _ _
  · clear hq40
    obtain ⟨z, hz⟩ : ∃ z, ((v : Int) / 256) % 4 = z := ⟨_, rfl⟩
    by_cases hz0 : z = 0
    · have hzb : (z == 0) = true := by simp [hz0]
      clear hz0 a1 hq3
      · skip
        go_enter Tryz.func68, Tryz.ntmps68
        go_wp2_with (go_at_call 66; refine (HM.out _).mono ?_; rintro e w' ⟨rfl, rfl⟩)
        refine bodyPost_ret (v := .agg #[.int .i64 4, .int .u32 0, .string ⟨#[]⟩]) (by simp [results, Tryz.results68, go_sem]) rfl (EvM.mk (by omega) (by omega) (by decide) (by first | rfl | exact ok3 (by omega) | exact ok6 _) ?_)
        first | exact W0.out | exact (Held.refl w).alloc _ | exact held3 W0.out (Nat.le_refl _) _ _ _
    · have hzb : (z == 0) = false := by simp [hz0]
      clear hz0 a1
      · skip
        go_enter Tryz.func68, Tryz.ntmps68
        go_wp2_with (go_at_call 66; refine (HM.out _).mono ?_; rintro e w' ⟨rfl, rfl⟩)
        refine bodyPost_ret (v := .agg #[.int .i64 6, .int .u32 y3, .string ⟨#[]⟩]) (by simp [results, Tryz.results68, go_sem]) rfl (EvM.mk (by omega) (by omega) (by decide) (by first | rfl | exact ok3 (by omega) | exact ok6 _) ?_)
        first | exact W0.out | exact (Held.refl w).alloc _ | exact held3 W0.out (Nat.le_refl _) _ _ _
end Evg
end Go.Proofs.YtdacgdokbfcgdaaGreat
