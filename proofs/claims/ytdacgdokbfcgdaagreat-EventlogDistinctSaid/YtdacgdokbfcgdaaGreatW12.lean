/-
  Contracts of the reference's machine: a step.
  Plain laws, no program in sight: the varint encoding of numbers, its reader, and the hash of chapter 1.
  Plain laws, no program in sight: the hash of chapter 1 (FNV-1a, 64 bits) on lists of bytes.
-/
import Derived.Test.YtdacgdokbfcgdaaGreatW11
import Derived.RowKit
import Derived.Laws.BitsAllLaws
set_option linter.unusedVariables false
set_option linter.unusedSimpArgs false
set_option maxRecDepth 100000
namespace Go.Proofs.YtdacgdokbfcgdaaGreat
open Go.RowKit Go.BigFrame Go.Sort Go.Lib
namespace Ma
theorem do_both (W : World) (g cap : Nat) (C L : List Int) (F : List Ck) (hC : CpuOK C) (hL : MemOK L) (w : World) (hM : Mem W w (memR W.heap.size g cap L :: F)) :
    Calls Tryz.prog 93 #[.agg (wA C), .slice (some ⟨g, 0, none⟩) 256 cap] w (DoTo (InNext C L) W g cap F) := by
  by_cases h : InNext C L
  · refine (do_in W g cap C L F h hC hL w hM).mono fun e w' hh => ?_
    obtain ⟨C', L', k, p, r, v, h1, h2, h3, h4, h5, h6, h7, h8⟩ := hh
    exact ⟨C', L', k, p, r, v, h1, h2, h3, h4, h5, h6, h7, fun _ => h8 trivial⟩
  · refine (do_any W g cap C L F hC hL w hM).mono fun e w' hh => ?_
    obtain ⟨C', L', k, p, r, v, h1, h2, h3, h4, h5, h6, h7, h8⟩ := hh
    exact ⟨C', L', k, p, r, v, h1, h2, h3, h4, h5, h6, h7, fun hn => absurd hn h⟩
abbrev effA (k p r v : Int) : Array Value := #[.int .i64 k, .int .i64 p, .int .i64 r, .int .u32 v]
theorem eff_one (k p r v : Int) : ∀ x ∈ (effA k p r v).toList, x.oneCell' = true := by
  intro x hx
  simp at hx
  rcases hx with rfl | rfl | rfl | rfl <;> rfl
structure AdvD (C : List Int) (d : Dv) (L : List Int) (C' : List Int) (d' : Dv) : Prop where
  cpu : CpuOK C'
  dok : DvOK d'
  cnt : d'.cnt = d.cnt + 1
  arm : InNext (intrL C d) L → d'.ta = true → d.ta = true
def AdvTo (W : World) (b : Nat) (T : TypeId) (C : List Int) (g cap : Nat) (d : Dv) (X : List Value) (F : List Ck) (L : List Int) (e : Ending) (w' : World) : Prop :=
  ∃ (C' : List Int) (d' : Dv) (v : Value) (LO : List Ou) (L' : List Int), e = .returned v ∧ AdvD C d L C' d' ∧ LO.length ≤ 1 ∧ MemOK L' ∧ Mem W w' (outR W.heap.size v LO :: memR W.heap.size g cap L' :: macB b T C' (memV g cap) d' X :: F)
set_option maxHeartbeats 16000000 in
theorem advance7_any (W : World) (b : Nat) (T : TypeId) (C : List Int) (g cap : Nat) (d : Dv) (X : List Value) (F : List Ck) (L : List Int) (clk : Int) (hk : Wd clk) (hC : CpuOK C) (hd : DvOK d) (hc : d.cnt ≤ 1000000) (hL : MemOK L) (w : World) (hM : Mem W w (memR W.heap.size g cap L :: macB b T C (memV g cap) d X :: F)) :
    Calls Tryz.prog 65 #[.pointer (some ⟨b, 0, none⟩), .int .u32 clk] w (AdvTo W b T C g cap d X F L) := by
  have HCL := Lib.hid hC.len
  have HSZ : Is (mcA C (memV g cap) d X).size (49 + X.length) := ⟨mc_size hC.len⟩
  have HI := Lib.hid fun w => interrupted_any C (memV g cap) d hC hd.bta rfl w
  unfold CpuAt at HI
  have hCi := intrL_ok d hC
  have HDO := Lib.hid fun (F' : List Ck) (w' : World) (h : Mem W w' (memR W.heap.size g cap L :: F')) => do_both W g cap (intrL C d) L F' hCi hL w' h
  unfold DoTo at HDO
  unfold AdvTo
  have HAD : ∀ C' d', CpuOK C' → DvOK d' → d'.cnt = d.cnt + 1 → (InNext (intrL C d) L → d'.ta = true → d.ta = true) → AdvD C d L C' d' := fun C' d' h1 h2 h3 h4 => ⟨h1, h2, h3, h4⟩
  have HAV := Lib.hid HAD
  clear HAD
  have M0 := Lib.hid hM
  have HD := Lib.hid hd
  have HK := Lib.hid hk
  generalize hCi' : intrL C d = Ci at *
  generalize hIN : InNext Ci L = IN at *
  clear hCi' hIN hM hL hk hC
  go_enter Tryz.func65, Tryz.ntmps65
  go_wp2_with (show wpList _ _ _ ((⟨_, Op.load 57 _, _, _, _, _⟩ : Oper) :: _) _ _; refine Mem.go_loadPart 57 rfl rfl 0 49 rfl 1 M0.out rfl uMac sMac (by rw [HSZ.out]; exact Nat.le_trans (by decide : 0 + 49 ≤ 49) (Nat.le_add_right _ _)) (take_all HCL.out) ?_)
  refine (HI.out _).mono ?_
  rintro e w3 ⟨rfl, h3⟩
  have M3 := Lib.hid (M0.out.keep h3)
  clear h3
  go_upto_region 3 with (show wpList _ _ _ ((⟨_, Op.store 44 _ _, _, _, _, _⟩ : Oper) :: _) _ _; refine Mem.go_storePart 44 rfl rfl 0 (news := wA Ci) rfl rfl 1 M3.out rfl (by rw [wA_size, hCi.len]; exact sCpu) (by rw [HSZ.out, wA_size, hCi.len]; omega) (wA_one _) ?_; intro w4 M4'; rw [patch_cpu HCL.out hCi.len] at M4'; (try simp only [List.set_cons_zero, List.set_cons_succ] at M4'); have M4 := Lib.hid M4'; clear M4')
  have HCI := Lib.hid hCi
  have HCL2 := Lib.hid hCi.len
  clear hCi HCL HSZ M0 M3 HI
  have HCL := HCL2
  have HSZ : Is (mcA Ci (memV g cap) { d with wai := false } X).size (49 + X.length) := ⟨mc_size HCL.out⟩
  have e47 := M4.out.cell 1 rfl 47 (mc_dv (mv := memV g cap) (X := X) HCL.out (j := 21) (by decide) (v := .bool d.wai) rfl)
  have f47 := M4.out.free 1 rfl 47
  have M5' := M4.out.put 1 rfl 47 (.bool false)
  rw [set_wai HCL.out] at M5'
  (try simp only [List.set_cons_zero, List.set_cons_succ] at M5')
  have M5 := Lib.hid M5'
  clear M5'
  obtain ⟨d1, hd1⟩ : ∃ d1 : Dv, { d with wai := false } = d1 := ⟨_, rfl⟩
  have HD1 : Hid (DvOK d1 ∧ d1.ta = d.ta ∧ d1.cnt = d.cnt) := by rw [← hd1]; exact ⟨{ HD.out with }, rfl, rfl⟩
  rw [hd1] at M5 HSZ
  clear hd1
  go_upto_region 4 with fail
  obtain ⟨wr, hwr⟩ : ∃ wr, (World.setCell w4 ⟨b, 47, none⟩ (.bool false)) = wr := ⟨_, rfl⟩
  rw [hwr] at M5 ⊢
  clear hwr M4 e47 f47
  have c25 := mc_mem (mv := memV g cap) (d := d1) (X := X) HCL.out
  have HB := Lib.hid fun (w' : World) (h : w'.heap[b]? = some (.cells (mcA Ci (memV g cap) d1 X) T (0, 0))) => (⟨h, Bx.cell h 25 c25⟩ : _ ∧ _)
  have hlt := M5.out.lt 1 rfl
  go_cut [6, 7] (fun v6 v7 wx => ∃ (bc be : Nat) (C2 L2 : List Int) (k p r v : Int), v6 = .pointer (some ⟨bc, 0, none⟩) ∧ v7 = .pointer (some ⟨be, 0, none⟩) ∧ CpuOK C2 ∧ MemOK L2 ∧ 0 ≤ r ∧ r ≤ 15 ∧ Wd v ∧ (IN → k = 1) ∧ Mem W wx (.box be (effA k p r v) 173 :: .box bc (wA C2) 44 :: memR W.heap.size g cap L2 :: macB b T Ci (memV g cap) d1 X :: F))
  case first =>
    have N0 := M5
    refine Tl.start 16 (fun w' => w'.heap[b]? = some (.cells (mcA Ci (memV g cap) d1 X) T (0, 0)) ∧ w'.cell? ⟨b, 25, none⟩ = some (memV g cap)) (by kernel_rfl) (HB.out _ (N0.out.drew.blk 1 rfl)) (fun hHeld => ?_)
    refine Tl.tf 0 (⟨some 20, .move (.tmp 0), 131, "machine.go:134", #[], none⟩ : Oper) ?v1 rfl ?hy1 (by assumption) ?_
    case hy1 => (intro w; go_simp; all_goals (with_reducible rfl))
    try simp only [Act.put, Tl.p2, Tl.p3, Tl.p4]
    refine Tl.tf 1 (⟨some 21, .nilCheck (.tmp 20), 0, "machine.go:134", #[⟨0, .data⟩], none⟩ : Oper) ?v2 rfl ?hy2 (by assumption) ?_
    case hy2 => (intro w; go_simp; all_goals (with_reducible rfl))
    try simp only [Act.put, Tl.p2, Tl.p3, Tl.p4]
    refine Tl.tf 2 (⟨some 22, .fieldAddr 57 (.tmp 21) 0, 0, "machine.go:134", #[⟨1, .data⟩], none⟩ : Oper) ?v3 rfl ?hy3 (by assumption) ?_
    case hy3 => (intro w; go_simp; all_goals (with_reducible rfl))
    try simp only [Act.put, Tl.p2, Tl.p3, Tl.p4]
    refine Tl.ty 3 (⟨some 23, .load 44 (.tmp 22), 44, "machine.go:134", #[⟨2, .data⟩], none⟩ : Oper) (.agg (wA Ci)) rfl (Big.yields_part 44 rfl rfl 0 25 rfl (fun w' h => h.1) uCpu sCpu (by rw [HSZ.out]; exact Nat.le_trans (by decide : 0 + 25 ≤ 49) (Nat.le_add_right _ _)) (take_cpu HCL.out)) (by assumption) ?_
    try simp only [Act.put, Tl.p2, Tl.p3, Tl.p4]
    refine Tl.tf 4 (⟨some 24, .move (.tmp 0), 131, "machine.go:134", #[], none⟩ : Oper) ?v5 rfl ?hy5 (by assumption) ?_
    case hy5 => (intro w; go_simp; all_goals (with_reducible rfl))
    try simp only [Act.put, Tl.p2, Tl.p3, Tl.p4]
    refine Tl.tf 5 (⟨some 25, .nilCheck (.tmp 24), 0, "machine.go:134", #[⟨4, .data⟩], none⟩ : Oper) ?v6 rfl ?hy6 (by assumption) ?_
    case hy6 => (intro w; go_simp; all_goals (with_reducible rfl))
    try simp only [Act.put, Tl.p2, Tl.p3, Tl.p4]
    refine Tl.tf 6 (⟨some 26, .fieldAddr 57 (.tmp 25) 1, 0, "machine.go:134", #[⟨5, .data⟩], none⟩ : Oper) ?v7 rfl ?hy7 (by assumption) ?_
    case hy7 => (intro w; go_simp; all_goals (with_reducible rfl))
    try simp only [Act.put, Tl.p2, Tl.p3, Tl.p4]
    refine Tl.tk 7 (⟨some 27, .load 45 (.tmp 26), 45, "machine.go:134", #[⟨6, .data⟩], none⟩ : Oper) ?v8 rfl ?hy8 (by assumption) ?_
    case hy8 => (intro w hSw; (try dsimp only at hSw); go_simp; all_goals (with_reducible rfl))
    try simp only [Act.put, Tl.p2, Tl.p3, Tl.p4]
    refine Tl.many (rs := [8, 12, 13]) (by kernel_rfl) (by simp) ?_
    refine Tl.All.cons (o := (⟨some 28, .call { callee := .value (.func 93), args := #[.tmp 23, .tmp 27], argTypes := #[44, 45] }, 174, "machine.go:134", #[⟨3, .data⟩, ⟨7, .data⟩], none⟩ : Oper)) rfl (fun K hK => ?_) ?_
    · go_simp
      go_at_call 93
      refine (HDO.out _ _ N0.out.drew).mono ?_
      rintro e w8 ⟨C2, L2, k, p, r, v, rfl, hC2, hL2, h8, hr0, hr1, hv, hk1⟩
      have HOK := Lib.hid hC2
      have N8 := Lib.hid h8
      clear hC2 h8
      dsimp only
      refine hK.out _ _ (HB.out _ (N8.out.blk 1 rfl)) (fun hHeld => ?_)
      clear hK K
      try simp only [Act.put, Tl.p2, Tl.p3, Tl.p4]
      refine Tl.tf 9 (⟨some 19, .move (.tmp 28), 174, "machine.go:134", #[⟨8, .data⟩], none⟩ : Oper) ?v9 rfl ?hy9 (by assumption) ?_
      case hy9 => (intro w; go_simp; all_goals (with_reducible rfl))
      try simp only [Act.put, Tl.p2, Tl.p3, Tl.p4]
      refine Tl.tf 10 (⟨some 29, .extract (.tmp 19) 0, 44, "machine.go:134", #[⟨9, .data⟩], none⟩ : Oper) ?v10 rfl ?hy10 (by assumption) ?_
      case hy10 => (intro w; go_simp; all_goals (with_reducible rfl))
      try simp only [Act.put, Tl.p2, Tl.p3, Tl.p4]
      refine Tl.tf 11 (⟨some 30, .extract (.tmp 19) 1, 173, "machine.go:134", #[⟨9, .data⟩, ⟨14, .gcOnly .lateStores⟩], none⟩ : Oper) ?v11 rfl ?hy11 (by assumption) ?_
      case hy11 => (intro w; go_simp; all_goals (with_reducible rfl))
      try simp only [Act.put, Tl.p2, Tl.p3, Tl.p4]
      refine Tl.many (rs := [12, 13]) (by kernel_rfl) (by simp) ?_
      refine Tl.All.cons (o := (⟨some 6, .alloc 44, 0, "machine.go:134", #[], none⟩ : Oper)) rfl (fun K hK => ?_) ?_
      · go_simp
        have N8_12 := Lib.hid (N8.out.allocF (b := w8.heap.size) (by simp) z25 44)
        refine hK.out _ _ (HB.out _ (N8_12.out.blk 2 rfl)) (fun hHeld => ?_)
        clear hK K
        try simp only [Act.put, Tl.p2, Tl.p3, Tl.p4]
        refine Tl.step (i := 13) (o := (⟨some 7, .alloc 173, 0, "machine.go:134", #[], none⟩ : Oper)) (by kernel_rfl) rfl (fun K hK => ?_)
        go_simp
        have N8_12_13 := Lib.hid (N8_12.out.allocF (b := w8.heap.size + 1) (by simp) z4 173)
        refine hK.out _ _ (HB.out _ (N8_12_13.out.blk 3 rfl)) (fun hHeld => ?_)
        clear hK K
        try simp only [Act.put, Tl.p2, Tl.p3, Tl.p4]
        refine Tl.step (i := 14) (o := (⟨none, .store 44 (.tmp 6) (.tmp 29), 0, "machine.go:134", #[⟨12, .data⟩, ⟨10, .data⟩, ⟨8, .chain⟩, ⟨0, .phase⟩, ⟨1, .phase⟩, ⟨2, .phase⟩, ⟨3, .phase⟩, ⟨4, .phase⟩, ⟨5, .phase⟩, ⟨6, .phase⟩, ⟨7, .phase⟩, ⟨8, .phase⟩, ⟨9, .phase⟩, ⟨10, .phase⟩, ⟨11, .textOnly .lateStores⟩, ⟨12, .phase⟩, ⟨13, .phase⟩], none⟩ : Oper)) (by kernel_rfl) rfl (fun K hK => ?_)
        refine Mem.step_storeAll 44 rfl rfl rfl rfl 1 N8_12_13.out rfl (by rw [wA_size, HOK.out.len]; exact sCpu) (by rw [wA_size, HOK.out.len]; rfl) (wA_one _) ?_
        intro w14 MM'
        (try simp only [List.set_cons_zero, List.set_cons_succ] at MM')
        have N8_12_13_14 := Lib.hid MM'
        clear MM'
        refine hK.out _ _ (HB.out _ (N8_12_13_14.out.blk 3 rfl)) (fun hHeld => ?_)
        clear hK K
        try simp only [Act.put, Tl.p2, Tl.p3, Tl.p4]
        refine Tl.step (i := 15) (o := (⟨none, .store 173 (.tmp 7) (.tmp 30), 0, "machine.go:134", #[⟨13, .data⟩, ⟨11, .data⟩, ⟨14, .chain⟩, ⟨0, .phase⟩, ⟨1, .phase⟩, ⟨2, .phase⟩, ⟨3, .phase⟩, ⟨4, .phase⟩, ⟨5, .phase⟩, ⟨6, .phase⟩, ⟨7, .phase⟩, ⟨8, .phase⟩, ⟨9, .phase⟩, ⟨10, .phase⟩, ⟨11, .phase⟩, ⟨12, .phase⟩, ⟨13, .phase⟩, ⟨14, .phase⟩], none⟩ : Oper)) (by kernel_rfl) rfl (fun K hK => ?_)
        refine Mem.step_storeAll 173 rfl rfl rfl rfl 0 N8_12_13_14.out rfl (news := effA k p r v) sEff rfl (eff_one _ _ _ _) ?_
        intro w15 MM'
        (try simp only [List.set_cons_zero, List.set_cons_succ] at MM')
        have N8_12_13_14_15 := Lib.hid MM'
        clear MM'
        refine hK.out _ _ (HB.out _ (N8_12_13_14_15.out.blk 3 rfl)) (fun hHeld => ?_)
        clear hK K
        try simp only [Act.put, Tl.p2, Tl.p3, Tl.p4]
        refine Tl.done (by kernel_rfl) ?_ _
        go_wp2
        go_meet
        case rel => exact ⟨_, _, C2, L2, k, p, r, v, rfl, rfl, HOK.out, hL2, hr0, hr1, hv, hk1, N8_12_13_14_15.out⟩
      refine Tl.All.cons (o := (⟨some 7, .alloc 173, 0, "machine.go:134", #[], none⟩ : Oper)) rfl (fun K hK => ?_) ?_
      · go_simp
        have N8_13 := Lib.hid (N8.out.allocF (b := w8.heap.size) (by simp) z4 173)
        refine hK.out _ _ (HB.out _ (N8_13.out.blk 2 rfl)) (fun hHeld => ?_)
        clear hK K
        try simp only [Act.put, Tl.p2, Tl.p3, Tl.p4]
        refine Tl.step (i := 12) (o := (⟨some 6, .alloc 44, 0, "machine.go:134", #[], none⟩ : Oper)) (by kernel_rfl) rfl (fun K hK => ?_)
        go_simp
        have N8_13_12 := Lib.hid (N8_13.out.allocF (b := w8.heap.size + 1) (by simp) z25 44)
        refine hK.out _ _ (HB.out _ (N8_13_12.out.blk 3 rfl)) (fun hHeld => ?_)
        clear hK K
        try simp only [Act.put, Tl.p2, Tl.p3, Tl.p4]
        refine Tl.step (i := 14) (o := (⟨none, .store 44 (.tmp 6) (.tmp 29), 0, "machine.go:134", #[⟨12, .data⟩, ⟨10, .data⟩, ⟨8, .chain⟩, ⟨0, .phase⟩, ⟨1, .phase⟩, ⟨2, .phase⟩, ⟨3, .phase⟩, ⟨4, .phase⟩, ⟨5, .phase⟩, ⟨6, .phase⟩, ⟨7, .phase⟩, ⟨8, .phase⟩, ⟨9, .phase⟩, ⟨10, .phase⟩, ⟨11, .textOnly .lateStores⟩, ⟨12, .phase⟩, ⟨13, .phase⟩], none⟩ : Oper)) (by kernel_rfl) rfl (fun K hK => ?_)
        refine Mem.step_storeAll 44 rfl rfl rfl rfl 0 N8_13_12.out rfl (by rw [wA_size, HOK.out.len]; exact sCpu) (by rw [wA_size, HOK.out.len]; rfl) (wA_one _) ?_
        intro w14 MM'
        (try simp only [List.set_cons_zero, List.set_cons_succ] at MM')
        have N8_13_12_14 := Lib.hid MM'
        clear MM'
        refine hK.out _ _ (HB.out _ (N8_13_12_14.out.blk 3 rfl)) (fun hHeld => ?_)
        clear hK K
        try simp only [Act.put, Tl.p2, Tl.p3, Tl.p4]
        refine Tl.step (i := 15) (o := (⟨none, .store 173 (.tmp 7) (.tmp 30), 0, "machine.go:134", #[⟨13, .data⟩, ⟨11, .data⟩, ⟨14, .chain⟩, ⟨0, .phase⟩, ⟨1, .phase⟩, ⟨2, .phase⟩, ⟨3, .phase⟩, ⟨4, .phase⟩, ⟨5, .phase⟩, ⟨6, .phase⟩, ⟨7, .phase⟩, ⟨8, .phase⟩, ⟨9, .phase⟩, ⟨10, .phase⟩, ⟨11, .phase⟩, ⟨12, .phase⟩, ⟨13, .phase⟩, ⟨14, .phase⟩], none⟩ : Oper)) (by kernel_rfl) rfl (fun K hK => ?_)
        refine Mem.step_storeAll 173 rfl rfl rfl rfl 1 N8_13_12_14.out rfl (news := effA k p r v) sEff rfl (eff_one _ _ _ _) ?_
        intro w15 MM'
        (try simp only [List.set_cons_zero, List.set_cons_succ] at MM')
        have N8_13_12_14_15 := Lib.hid MM'
        clear MM'
        refine hK.out _ _ (HB.out _ (N8_13_12_14_15.out.blk 3 rfl)) (fun hHeld => ?_)
        clear hK K
        try simp only [Act.put, Tl.p2, Tl.p3, Tl.p4]
        refine Tl.done (by kernel_rfl) ?_ _
        go_wp2
        go_meet
        case rel => exact ⟨_, _, C2, L2, k, p, r, v, rfl, rfl, HOK.out, hL2, hr0, hr1, hv, hk1, N8_13_12_14_15.out.up1⟩
      exact Tl.All.nil
    refine Tl.All.cons (o := (⟨some 6, .alloc 44, 0, "machine.go:134", #[], none⟩ : Oper)) rfl (fun K hK => ?_) ?_
    · go_simp
      have N12 := Lib.hid (N0.out.allocF (b := wr.heap.size) (by simp) z25 44)
      refine hK.out _ _ (HB.out _ (N12.out.drew.blk 2 rfl)) (fun hHeld => ?_)
      clear hK K
      try simp only [Act.put, Tl.p2, Tl.p3, Tl.p4]
      refine Tl.many (rs := [8, 13]) (by kernel_rfl) (by simp) ?_
      refine Tl.All.cons (o := (⟨some 28, .call { callee := .value (.func 93), args := #[.tmp 23, .tmp 27], argTypes := #[44, 45] }, 174, "machine.go:134", #[⟨3, .data⟩, ⟨7, .data⟩], none⟩ : Oper)) rfl (fun K hK => ?_) ?_
      · go_simp
        go_at_call 93
        refine (HDO.out _ _ N12.out.drew.up1).mono ?_
        rintro e w8 ⟨C2, L2, k, p, r, v, rfl, hC2, hL2, h8, hr0, hr1, hv, hk1⟩
        have HOK := Lib.hid hC2
        have N12_8 := Lib.hid h8.dn1
        clear hC2 h8
        dsimp only
        refine hK.out _ _ (HB.out _ (N12_8.out.blk 2 rfl)) (fun hHeld => ?_)
        clear hK K
        try simp only [Act.put, Tl.p2, Tl.p3, Tl.p4]
        refine Tl.tf 9 (⟨some 19, .move (.tmp 28), 174, "machine.go:134", #[⟨8, .data⟩], none⟩ : Oper) ?v12 rfl ?hy12 (by assumption) ?_
        case hy12 => (intro w; go_simp; all_goals (with_reducible rfl))
        try simp only [Act.put, Tl.p2, Tl.p3, Tl.p4]
        refine Tl.tf 10 (⟨some 29, .extract (.tmp 19) 0, 44, "machine.go:134", #[⟨9, .data⟩], none⟩ : Oper) ?v13 rfl ?hy13 (by assumption) ?_
        case hy13 => (intro w; go_simp; all_goals (with_reducible rfl))
        try simp only [Act.put, Tl.p2, Tl.p3, Tl.p4]
        refine Tl.tf 11 (⟨some 30, .extract (.tmp 19) 1, 173, "machine.go:134", #[⟨9, .data⟩, ⟨14, .gcOnly .lateStores⟩], none⟩ : Oper) ?v14 rfl ?hy14 (by assumption) ?_
        case hy14 => (intro w; go_simp; all_goals (with_reducible rfl))
        try simp only [Act.put, Tl.p2, Tl.p3, Tl.p4]
        refine Tl.step (i := 13) (o := (⟨some 7, .alloc 173, 0, "machine.go:134", #[], none⟩ : Oper)) (by kernel_rfl) rfl (fun K hK => ?_)
        go_simp
        have N12_8_13 := Lib.hid (N12_8.out.allocF (b := w8.heap.size) (by simp) z4 173)
        refine hK.out _ _ (HB.out _ (N12_8_13.out.blk 3 rfl)) (fun hHeld => ?_)
        clear hK K
        try simp only [Act.put, Tl.p2, Tl.p3, Tl.p4]
        refine Tl.step (i := 14) (o := (⟨none, .store 44 (.tmp 6) (.tmp 29), 0, "machine.go:134", #[⟨12, .data⟩, ⟨10, .data⟩, ⟨8, .chain⟩, ⟨0, .phase⟩, ⟨1, .phase⟩, ⟨2, .phase⟩, ⟨3, .phase⟩, ⟨4, .phase⟩, ⟨5, .phase⟩, ⟨6, .phase⟩, ⟨7, .phase⟩, ⟨8, .phase⟩, ⟨9, .phase⟩, ⟨10, .phase⟩, ⟨11, .textOnly .lateStores⟩, ⟨12, .phase⟩, ⟨13, .phase⟩], none⟩ : Oper)) (by kernel_rfl) rfl (fun K hK => ?_)
        refine Mem.step_storeAll 44 rfl rfl rfl rfl 1 N12_8_13.out rfl (by rw [wA_size, HOK.out.len]; exact sCpu) (by rw [wA_size, HOK.out.len]; rfl) (wA_one _) ?_
        intro w14 MM'
        (try simp only [List.set_cons_zero, List.set_cons_succ] at MM')
        have N12_8_13_14 := Lib.hid MM'
        clear MM'
        refine hK.out _ _ (HB.out _ (N12_8_13_14.out.blk 3 rfl)) (fun hHeld => ?_)
        clear hK K
        try simp only [Act.put, Tl.p2, Tl.p3, Tl.p4]
        refine Tl.step (i := 15) (o := (⟨none, .store 173 (.tmp 7) (.tmp 30), 0, "machine.go:134", #[⟨13, .data⟩, ⟨11, .data⟩, ⟨14, .chain⟩, ⟨0, .phase⟩, ⟨1, .phase⟩, ⟨2, .phase⟩, ⟨3, .phase⟩, ⟨4, .phase⟩, ⟨5, .phase⟩, ⟨6, .phase⟩, ⟨7, .phase⟩, ⟨8, .phase⟩, ⟨9, .phase⟩, ⟨10, .phase⟩, ⟨11, .phase⟩, ⟨12, .phase⟩, ⟨13, .phase⟩, ⟨14, .phase⟩], none⟩ : Oper)) (by kernel_rfl) rfl (fun K hK => ?_)
        refine Mem.step_storeAll 173 rfl rfl rfl rfl 0 N12_8_13_14.out rfl (news := effA k p r v) sEff rfl (eff_one _ _ _ _) ?_
        intro w15 MM'
        (try simp only [List.set_cons_zero, List.set_cons_succ] at MM')
        have N12_8_13_14_15 := Lib.hid MM'
        clear MM'
        refine hK.out _ _ (HB.out _ (N12_8_13_14_15.out.blk 3 rfl)) (fun hHeld => ?_)
        clear hK K
        try simp only [Act.put, Tl.p2, Tl.p3, Tl.p4]
        refine Tl.done (by kernel_rfl) ?_ _
        go_wp2
        go_meet
        case rel => exact ⟨_, _, C2, L2, k, p, r, v, rfl, rfl, HOK.out, hL2, hr0, hr1, hv, hk1, N12_8_13_14_15.out⟩
      refine Tl.All.cons (o := (⟨some 7, .alloc 173, 0, "machine.go:134", #[], none⟩ : Oper)) rfl (fun K hK => ?_) ?_
      · go_simp
        have N12_13 := Lib.hid (N12.out.allocF (b := wr.heap.size + 1) (by simp) z4 173)
        refine hK.out _ _ (HB.out _ (N12_13.out.drew.blk 3 rfl)) (fun hHeld => ?_)
        clear hK K
        try simp only [Act.put, Tl.p2, Tl.p3, Tl.p4]
        refine Tl.step (i := 8) (o := (⟨some 28, .call { callee := .value (.func 93), args := #[.tmp 23, .tmp 27], argTypes := #[44, 45] }, 174, "machine.go:134", #[⟨3, .data⟩, ⟨7, .data⟩], none⟩ : Oper)) (by kernel_rfl) rfl (fun K hK => ?_)
        go_simp
        go_at_call 93
        refine (HDO.out _ _ N12_13.out.drew.up2).mono ?_
        rintro e w8 ⟨C2, L2, k, p, r, v, rfl, hC2, hL2, h8, hr0, hr1, hv, hk1⟩
        have HOK := Lib.hid hC2
        have N12_13_8 := Lib.hid h8.dn2
        clear hC2 h8
        dsimp only
        refine hK.out _ _ (HB.out _ (N12_13_8.out.blk 3 rfl)) (fun hHeld => ?_)
        clear hK K
        try simp only [Act.put, Tl.p2, Tl.p3, Tl.p4]
        refine Tl.tf 9 (⟨some 19, .move (.tmp 28), 174, "machine.go:134", #[⟨8, .data⟩], none⟩ : Oper) ?v15 rfl ?hy15 (by assumption) ?_
        case hy15 => (intro w; go_simp; all_goals (with_reducible rfl))
        try simp only [Act.put, Tl.p2, Tl.p3, Tl.p4]
        refine Tl.tf 10 (⟨some 29, .extract (.tmp 19) 0, 44, "machine.go:134", #[⟨9, .data⟩], none⟩ : Oper) ?v16 rfl ?hy16 (by assumption) ?_
        case hy16 => (intro w; go_simp; all_goals (with_reducible rfl))
        try simp only [Act.put, Tl.p2, Tl.p3, Tl.p4]
        refine Tl.tf 11 (⟨some 30, .extract (.tmp 19) 1, 173, "machine.go:134", #[⟨9, .data⟩, ⟨14, .gcOnly .lateStores⟩], none⟩ : Oper) ?v17 rfl ?hy17 (by assumption) ?_
        case hy17 => (intro w; go_simp; all_goals (with_reducible rfl))
        try simp only [Act.put, Tl.p2, Tl.p3, Tl.p4]
        refine Tl.step (i := 14) (o := (⟨none, .store 44 (.tmp 6) (.tmp 29), 0, "machine.go:134", #[⟨12, .data⟩, ⟨10, .data⟩, ⟨8, .chain⟩, ⟨0, .phase⟩, ⟨1, .phase⟩, ⟨2, .phase⟩, ⟨3, .phase⟩, ⟨4, .phase⟩, ⟨5, .phase⟩, ⟨6, .phase⟩, ⟨7, .phase⟩, ⟨8, .phase⟩, ⟨9, .phase⟩, ⟨10, .phase⟩, ⟨11, .textOnly .lateStores⟩, ⟨12, .phase⟩, ⟨13, .phase⟩], none⟩ : Oper)) (by kernel_rfl) rfl (fun K hK => ?_)
        refine Mem.step_storeAll 44 rfl rfl rfl rfl 1 N12_13_8.out rfl (by rw [wA_size, HOK.out.len]; exact sCpu) (by rw [wA_size, HOK.out.len]; rfl) (wA_one _) ?_
        intro w14 MM'
        (try simp only [List.set_cons_zero, List.set_cons_succ] at MM')
        have N12_13_8_14 := Lib.hid MM'
        clear MM'
        refine hK.out _ _ (HB.out _ (N12_13_8_14.out.blk 3 rfl)) (fun hHeld => ?_)
        clear hK K
        try simp only [Act.put, Tl.p2, Tl.p3, Tl.p4]
        refine Tl.step (i := 15) (o := (⟨none, .store 173 (.tmp 7) (.tmp 30), 0, "machine.go:134", #[⟨13, .data⟩, ⟨11, .data⟩, ⟨14, .chain⟩, ⟨0, .phase⟩, ⟨1, .phase⟩, ⟨2, .phase⟩, ⟨3, .phase⟩, ⟨4, .phase⟩, ⟨5, .phase⟩, ⟨6, .phase⟩, ⟨7, .phase⟩, ⟨8, .phase⟩, ⟨9, .phase⟩, ⟨10, .phase⟩, ⟨11, .phase⟩, ⟨12, .phase⟩, ⟨13, .phase⟩, ⟨14, .phase⟩], none⟩ : Oper)) (by kernel_rfl) rfl (fun K hK => ?_)
        refine Mem.step_storeAll 173 rfl rfl rfl rfl 0 N12_13_8_14.out rfl (news := effA k p r v) sEff rfl (eff_one _ _ _ _) ?_
        intro w15 MM'
        (try simp only [List.set_cons_zero, List.set_cons_succ] at MM')
        have N12_13_8_14_15 := Lib.hid MM'
        clear MM'
        refine hK.out _ _ (HB.out _ (N12_13_8_14_15.out.blk 3 rfl)) (fun hHeld => ?_)
        clear hK K
        try simp only [Act.put, Tl.p2, Tl.p3, Tl.p4]
        refine Tl.done (by kernel_rfl) ?_ _
        go_wp2
        go_meet
        case rel => exact ⟨_, _, C2, L2, k, p, r, v, rfl, rfl, HOK.out, hL2, hr0, hr1, hv, hk1, N12_13_8_14_15.out⟩
      exact Tl.All.nil
    refine Tl.All.cons (o := (⟨some 7, .alloc 173, 0, "machine.go:134", #[], none⟩ : Oper)) rfl (fun K hK => ?_) ?_
    · go_simp
      have N13 := Lib.hid (N0.out.allocF (b := wr.heap.size) (by simp) z4 173)
      refine hK.out _ _ (HB.out _ (N13.out.drew.blk 2 rfl)) (fun hHeld => ?_)
      clear hK K
      try simp only [Act.put, Tl.p2, Tl.p3, Tl.p4]
      refine Tl.many (rs := [8, 12]) (by kernel_rfl) (by simp) ?_
      refine Tl.All.cons (o := (⟨some 28, .call { callee := .value (.func 93), args := #[.tmp 23, .tmp 27], argTypes := #[44, 45] }, 174, "machine.go:134", #[⟨3, .data⟩, ⟨7, .data⟩], none⟩ : Oper)) rfl (fun K hK => ?_) ?_
      · go_simp
        go_at_call 93
        refine (HDO.out _ _ N13.out.drew.up1).mono ?_
        rintro e w8 ⟨C2, L2, k, p, r, v, rfl, hC2, hL2, h8, hr0, hr1, hv, hk1⟩
        have HOK := Lib.hid hC2
        have N13_8 := Lib.hid h8.dn1
        clear hC2 h8
        dsimp only
        refine hK.out _ _ (HB.out _ (N13_8.out.blk 2 rfl)) (fun hHeld => ?_)
        clear hK K
        try simp only [Act.put, Tl.p2, Tl.p3, Tl.p4]
        refine Tl.tf 9 (⟨some 19, .move (.tmp 28), 174, "machine.go:134", #[⟨8, .data⟩], none⟩ : Oper) ?v18 rfl ?hy18 (by assumption) ?_
        case hy18 => (intro w; go_simp; all_goals (with_reducible rfl))
        try simp only [Act.put, Tl.p2, Tl.p3, Tl.p4]
        refine Tl.tf 10 (⟨some 29, .extract (.tmp 19) 0, 44, "machine.go:134", #[⟨9, .data⟩], none⟩ : Oper) ?v19 rfl ?hy19 (by assumption) ?_
        case hy19 => (intro w; go_simp; all_goals (with_reducible rfl))
        try simp only [Act.put, Tl.p2, Tl.p3, Tl.p4]
        refine Tl.tf 11 (⟨some 30, .extract (.tmp 19) 1, 173, "machine.go:134", #[⟨9, .data⟩, ⟨14, .gcOnly .lateStores⟩], none⟩ : Oper) ?v20 rfl ?hy20 (by assumption) ?_
        case hy20 => (intro w; go_simp; all_goals (with_reducible rfl))
        try simp only [Act.put, Tl.p2, Tl.p3, Tl.p4]
        refine Tl.step (i := 12) (o := (⟨some 6, .alloc 44, 0, "machine.go:134", #[], none⟩ : Oper)) (by kernel_rfl) rfl (fun K hK => ?_)
        go_simp
        have N13_8_12 := Lib.hid (N13_8.out.allocF (b := w8.heap.size) (by simp) z25 44)
        refine hK.out _ _ (HB.out _ (N13_8_12.out.blk 3 rfl)) (fun hHeld => ?_)
        clear hK K
        try simp only [Act.put, Tl.p2, Tl.p3, Tl.p4]
        refine Tl.step (i := 14) (o := (⟨none, .store 44 (.tmp 6) (.tmp 29), 0, "machine.go:134", #[⟨12, .data⟩, ⟨10, .data⟩, ⟨8, .chain⟩, ⟨0, .phase⟩, ⟨1, .phase⟩, ⟨2, .phase⟩, ⟨3, .phase⟩, ⟨4, .phase⟩, ⟨5, .phase⟩, ⟨6, .phase⟩, ⟨7, .phase⟩, ⟨8, .phase⟩, ⟨9, .phase⟩, ⟨10, .phase⟩, ⟨11, .textOnly .lateStores⟩, ⟨12, .phase⟩, ⟨13, .phase⟩], none⟩ : Oper)) (by kernel_rfl) rfl (fun K hK => ?_)
        refine Mem.step_storeAll 44 rfl rfl rfl rfl 0 N13_8_12.out rfl (by rw [wA_size, HOK.out.len]; exact sCpu) (by rw [wA_size, HOK.out.len]; rfl) (wA_one _) ?_
        intro w14 MM'
        (try simp only [List.set_cons_zero, List.set_cons_succ] at MM')
        have N13_8_12_14 := Lib.hid MM'
        clear MM'
        refine hK.out _ _ (HB.out _ (N13_8_12_14.out.blk 3 rfl)) (fun hHeld => ?_)
        clear hK K
        try simp only [Act.put, Tl.p2, Tl.p3, Tl.p4]
        refine Tl.step (i := 15) (o := (⟨none, .store 173 (.tmp 7) (.tmp 30), 0, "machine.go:134", #[⟨13, .data⟩, ⟨11, .data⟩, ⟨14, .chain⟩, ⟨0, .phase⟩, ⟨1, .phase⟩, ⟨2, .phase⟩, ⟨3, .phase⟩, ⟨4, .phase⟩, ⟨5, .phase⟩, ⟨6, .phase⟩, ⟨7, .phase⟩, ⟨8, .phase⟩, ⟨9, .phase⟩, ⟨10, .phase⟩, ⟨11, .phase⟩, ⟨12, .phase⟩, ⟨13, .phase⟩, ⟨14, .phase⟩], none⟩ : Oper)) (by kernel_rfl) rfl (fun K hK => ?_)
        refine Mem.step_storeAll 173 rfl rfl rfl rfl 1 N13_8_12_14.out rfl (news := effA k p r v) sEff rfl (eff_one _ _ _ _) ?_
        intro w15 MM'
        (try simp only [List.set_cons_zero, List.set_cons_succ] at MM')
        have N13_8_12_14_15 := Lib.hid MM'
        clear MM'
        refine hK.out _ _ (HB.out _ (N13_8_12_14_15.out.blk 3 rfl)) (fun hHeld => ?_)
        clear hK K
        try simp only [Act.put, Tl.p2, Tl.p3, Tl.p4]
        refine Tl.done (by kernel_rfl) ?_ _
        go_wp2
        go_meet
        case rel => exact ⟨_, _, C2, L2, k, p, r, v, rfl, rfl, HOK.out, hL2, hr0, hr1, hv, hk1, N13_8_12_14_15.out.up1⟩
      refine Tl.All.cons (o := (⟨some 6, .alloc 44, 0, "machine.go:134", #[], none⟩ : Oper)) rfl (fun K hK => ?_) ?_
      · go_simp
        have N13_12 := Lib.hid (N13.out.allocF (b := wr.heap.size + 1) (by simp) z25 44)
        refine hK.out _ _ (HB.out _ (N13_12.out.drew.blk 3 rfl)) (fun hHeld => ?_)
        clear hK K
        try simp only [Act.put, Tl.p2, Tl.p3, Tl.p4]
        refine Tl.step (i := 8) (o := (⟨some 28, .call { callee := .value (.func 93), args := #[.tmp 23, .tmp 27], argTypes := #[44, 45] }, 174, "machine.go:134", #[⟨3, .data⟩, ⟨7, .data⟩], none⟩ : Oper)) (by kernel_rfl) rfl (fun K hK => ?_)
        go_simp
        go_at_call 93
        refine (HDO.out _ _ N13_12.out.drew.up2).mono ?_
        rintro e w8 ⟨C2, L2, k, p, r, v, rfl, hC2, hL2, h8, hr0, hr1, hv, hk1⟩
        have HOK := Lib.hid hC2
        have N13_12_8 := Lib.hid h8.dn2
        clear hC2 h8
        dsimp only
        refine hK.out _ _ (HB.out _ (N13_12_8.out.blk 3 rfl)) (fun hHeld => ?_)
        clear hK K
        try simp only [Act.put, Tl.p2, Tl.p3, Tl.p4]
        refine Tl.tf 9 (⟨some 19, .move (.tmp 28), 174, "machine.go:134", #[⟨8, .data⟩], none⟩ : Oper) ?v21 rfl ?hy21 (by assumption) ?_
        case hy21 => (intro w; go_simp; all_goals (with_reducible rfl))
        try simp only [Act.put, Tl.p2, Tl.p3, Tl.p4]
        refine Tl.tf 10 (⟨some 29, .extract (.tmp 19) 0, 44, "machine.go:134", #[⟨9, .data⟩], none⟩ : Oper) ?v22 rfl ?hy22 (by assumption) ?_
        case hy22 => (intro w; go_simp; all_goals (with_reducible rfl))
        try simp only [Act.put, Tl.p2, Tl.p3, Tl.p4]
        refine Tl.tf 11 (⟨some 30, .extract (.tmp 19) 1, 173, "machine.go:134", #[⟨9, .data⟩, ⟨14, .gcOnly .lateStores⟩], none⟩ : Oper) ?v23 rfl ?hy23 (by assumption) ?_
        case hy23 => (intro w; go_simp; all_goals (with_reducible rfl))
        try simp only [Act.put, Tl.p2, Tl.p3, Tl.p4]
        refine Tl.step (i := 14) (o := (⟨none, .store 44 (.tmp 6) (.tmp 29), 0, "machine.go:134", #[⟨12, .data⟩, ⟨10, .data⟩, ⟨8, .chain⟩, ⟨0, .phase⟩, ⟨1, .phase⟩, ⟨2, .phase⟩, ⟨3, .phase⟩, ⟨4, .phase⟩, ⟨5, .phase⟩, ⟨6, .phase⟩, ⟨7, .phase⟩, ⟨8, .phase⟩, ⟨9, .phase⟩, ⟨10, .phase⟩, ⟨11, .textOnly .lateStores⟩, ⟨12, .phase⟩, ⟨13, .phase⟩], none⟩ : Oper)) (by kernel_rfl) rfl (fun K hK => ?_)
        refine Mem.step_storeAll 44 rfl rfl rfl rfl 0 N13_12_8.out rfl (by rw [wA_size, HOK.out.len]; exact sCpu) (by rw [wA_size, HOK.out.len]; rfl) (wA_one _) ?_
        intro w14 MM'
        (try simp only [List.set_cons_zero, List.set_cons_succ] at MM')
        have N13_12_8_14 := Lib.hid MM'
        clear MM'
        refine hK.out _ _ (HB.out _ (N13_12_8_14.out.blk 3 rfl)) (fun hHeld => ?_)
        clear hK K
        try simp only [Act.put, Tl.p2, Tl.p3, Tl.p4]
        refine Tl.step (i := 15) (o := (⟨none, .store 173 (.tmp 7) (.tmp 30), 0, "machine.go:134", #[⟨13, .data⟩, ⟨11, .data⟩, ⟨14, .chain⟩, ⟨0, .phase⟩, ⟨1, .phase⟩, ⟨2, .phase⟩, ⟨3, .phase⟩, ⟨4, .phase⟩, ⟨5, .phase⟩, ⟨6, .phase⟩, ⟨7, .phase⟩, ⟨8, .phase⟩, ⟨9, .phase⟩, ⟨10, .phase⟩, ⟨11, .phase⟩, ⟨12, .phase⟩, ⟨13, .phase⟩, ⟨14, .phase⟩], none⟩ : Oper)) (by kernel_rfl) rfl (fun K hK => ?_)
        refine Mem.step_storeAll 173 rfl rfl rfl rfl 1 N13_12_8_14.out rfl (news := effA k p r v) sEff rfl (eff_one _ _ _ _) ?_
        intro w15 MM'
        (try simp only [List.set_cons_zero, List.set_cons_succ] at MM')
        have N13_12_8_14_15 := Lib.hid MM'
        clear MM'
        refine hK.out _ _ (HB.out _ (N13_12_8_14_15.out.blk 3 rfl)) (fun hHeld => ?_)
        clear hK K
        try simp only [Act.put, Tl.p2, Tl.p3, Tl.p4]
        refine Tl.done (by kernel_rfl) ?_ _
        go_wp2
        go_meet
        case rel => exact ⟨_, _, C2, L2, k, p, r, v, rfl, rfl, HOK.out, hL2, hr0, hr1, hv, hk1, N13_12_8_14_15.out.up1⟩
      exact Tl.All.nil
    exact Tl.All.nil
  case rest =>
    obtain ⟨bc, be, C2, L2, k, p, r, v, rfl, rfl, hC2, hL2, hr0, hr1, hv, hk1, hM⟩ := hcut
    have M6 := Lib.hid hM
    have HOK := Lib.hid hC2
    have HL2 := Lib.hid hL2
    have HR := Lib.hid (And.intro hr0 hr1)
    have HV := Lib.hid hv
    have HK1 := Lib.hid hk1
    clear hM hC2 hL2 hr0 hr1 hv hk1 HB c25 hlt M5 HDO
    obtain ⟨⟨t0, t1, t2, t3⟩, _, tl⟩ := M6.out.box4 0 rfl
    go_upto_region 6 with (first | (show wpList _ _ _ ((⟨_, Op.load 44 _, _, _, _, _⟩ : Oper) :: _) _ _; refine Mem.go_loadAll 44 rfl rfl rfl 1 M6.out rfl uCpu (by rw [wA_size, HOK.out.len]; exact sCpu) ?_) | (show wpList _ _ _ ((⟨_, Op.store 44 _ _, _, _, _, _⟩ : Oper) :: _) _ _; refine Mem.go_storePart 44 rfl rfl 0 (news := wA C2) rfl rfl 3 M6.out rfl (by rw [wA_size, HOK.out.len]; exact sCpu) (by rw [HSZ.out, wA_size, HOK.out.len]; omega) (wA_one _) ?_; intro w7 M7'; rw [patch_cpu HCL.out HOK.out.len] at M7'; (try simp only [List.set_cons_zero, List.set_cons_succ] at M7'); have M7 := Lib.hid M7'; clear M7'))
    have HCL3 := Lib.hid HOK.out.len
    clear HCL HCL2 HSZ M6 t0 t1 t2 t3 tl
    have HCL := HCL3
    have HSZ : Is (mcA C2 (memV g cap) d1 X).size (49 + X.length) := ⟨mc_size HCL.out⟩
    clear HCL3
    obtain ⟨⟨t0, t1, t2, t3⟩, _, tl⟩ := M7.out.box4 0 rfl
    obtain ⟨HDA, HTA, HCN⟩ := HD1.out
    rcases (by omega : k = 1 ∨ k = 2 ∨ k = 3 ∨ k = 4 ∨ (k ≠ 1 ∧ k ≠ 2 ∧ k ≠ 3 ∧ k ≠ 4)) with rfl | rfl | rfl | rfl | ⟨q1, q2, q3, q4⟩
    · have HSR := Lib.hid fun z (hz : Wd z) w => set_any C2 r.toNat z HOK.out (by have := HR.out; omega) w
      unfold CpuTo at HSR
      rw [show ((r.toNat : Nat) : Int) = r by have := HR.out.1; omega] at HSR
      have HSO := Lib.hid fun z (hz : Wd z) => setR_ok HOK.out r.toNat hz
      go_wp2_with fail
      refine (in_any W b T C2 (memV g cap) d1 X _ p clk HK.out HCL.out HDA _ M7.out.up3).mono ?_
      rintro e w8 ⟨z, s, rfl, hz, hs, h8⟩
      have M8 := Lib.hid h8.dn3
      have HZ := Lib.hid (And.intro hz hs)
      clear h8 hz hs t0 t1 t2 t3 HSZ
      have HSZ : Is (mcA C2 (memV g cap) { d1 with keys := s } X).size (49 + X.length) := ⟨mc_size HCL.out⟩
      obtain ⟨⟨t0, t1, t2, t3⟩, _, _⟩ := M8.out.box4 0 rfl
      go_upto_region 9 with fail
      refine Tl.start 11 (fun w' => w'.heap[b]? = some (.cells (mcA C2 (memV g cap) { d1 with keys := s } X) T (0, 0)) ∧ w'.cell? ⟨be, 2, none⟩ = some (.int .i64 r)) (by kernel_rfl) (⟨M8.out.drew.blk 3 rfl, (M8.out.drew.box4 0 rfl).1.2.2.1⟩) (fun hHeld => ?_)
      refine Tl.tf 0 (⟨some 44, .move (.tmp 0), 131, "machine.go:139", #[], none⟩ : Oper) ?v24 rfl ?hy24 (by assumption) ?_
      case hy24 => (intro w; go_simp; all_goals (with_reducible rfl))
      try simp only [Act.put, Tl.p2, Tl.p3, Tl.p4]
      refine Tl.tf 1 (⟨some 45, .move (.tmp 0), 131, "machine.go:139", #[], none⟩ : Oper) ?v25 rfl ?hy25 (by assumption) ?_
      case hy25 => (intro w; go_simp; all_goals (with_reducible rfl))
      try simp only [Act.put, Tl.p2, Tl.p3, Tl.p4]
      refine Tl.tf 2 (⟨some 46, .nilCheck (.tmp 45), 0, "machine.go:139", #[⟨1, .data⟩], none⟩ : Oper) ?v26 rfl ?hy26 (by assumption) ?_
      case hy26 => (intro w; go_simp; all_goals (with_reducible rfl))
      try simp only [Act.put, Tl.p2, Tl.p3, Tl.p4]
      refine Tl.tf 3 (⟨some 47, .fieldAddr 57 (.tmp 46) 0, 0, "machine.go:139", #[⟨2, .data⟩], none⟩ : Oper) ?v27 rfl ?hy27 (by assumption) ?_
      case hy27 => (intro w; go_simp; all_goals (with_reducible rfl))
      try simp only [Act.put, Tl.p2, Tl.p3, Tl.p4]
      refine Tl.ty 4 (⟨some 48, .load 44 (.tmp 47), 44, "machine.go:139", #[⟨3, .data⟩], none⟩ : Oper) (.agg (wA C2)) rfl (Big.yields_part 44 rfl rfl 0 25 rfl (fun w' h => h.1) uCpu sCpu (by rw [HSZ.out]; exact Nat.le_trans (by decide : 0 + 25 ≤ 49) (Nat.le_add_right _ _)) (take_cpu HCL.out)) (by assumption) ?_
      try simp only [Act.put, Tl.p2, Tl.p3, Tl.p4]
      refine Tl.tf 5 (⟨some 49, .fieldAddr 173 (.tmp 7) 2, 0, "machine.go:139", #[], none⟩ : Oper) ?v29 rfl ?hy29 (by assumption) ?_
      case hy29 => (intro w; go_simp; all_goals (with_reducible rfl))
      try simp only [Act.put, Tl.p2, Tl.p3, Tl.p4]
      refine Tl.tk 6 (⟨some 50, .load 3 (.tmp 49), 3, "machine.go:139", #[⟨5, .data⟩], none⟩ : Oper) ?v30 rfl ?hy30 (by assumption) ?_
      case hy30 => (intro w hSw; (try dsimp only at hSw); go_simp; all_goals (with_reducible rfl))
      try simp only [Act.put, Tl.p2, Tl.p3, Tl.p4]
      refine Tl.tf 7 (⟨some 51, .move (.tmp 8), 40, "machine.go:139", #[], none⟩ : Oper) ?v31 rfl ?hy31 (by assumption) ?_
      case hy31 => (intro w; go_simp; all_goals (with_reducible rfl))
      try simp only [Act.put, Tl.p2, Tl.p3, Tl.p4]
      refine Tl.step (i := 8) (o := (⟨some 52, .call { callee := .value (.func 95), args := #[.tmp 48, .tmp 50, .tmp 51], argTypes := #[44, 3, 40] }, 44, "machine.go:139", #[⟨4, .data⟩, ⟨6, .data⟩, ⟨7, .data⟩], none⟩ : Oper)) (by kernel_rfl) rfl (fun K hK => ?_)
      go_simp
      go_at_call 95
      refine (HSR.out z HZ.out.1 _).mono ?_
      rintro e w9 ⟨rfl, h9⟩
      have M9 := Lib.hid (M8.out.drew.keep h9)
      have HSX := Lib.hid (HSO.out z HZ.out.1)
      clear h9
      dsimp only
      refine hK.out _ _ (⟨M9.out.blk 3 rfl, (M9.out.box4 0 rfl).1.2.2.1⟩) (fun hHeld => ?_)
      clear hK K
      try simp only [Act.put, Tl.p2, Tl.p3, Tl.p4]
      refine Tl.tf 9 (⟨some 53, .nilCheck (.tmp 44), 0, "machine.go:139", #[⟨0, .data⟩, ⟨0, .phase⟩, ⟨1, .phase⟩, ⟨2, .phase⟩, ⟨3, .phase⟩, ⟨4, .phase⟩, ⟨5, .phase⟩, ⟨6, .phase⟩, ⟨7, .phase⟩, ⟨8, .phase⟩], none⟩ : Oper) ?v32 rfl ?hy32 (by assumption) ?_
      case hy32 => (intro w; go_simp; all_goals (with_reducible rfl))
      try simp only [Act.put, Tl.p2, Tl.p3, Tl.p4]
      refine Tl.tf 10 (⟨some 54, .fieldAddr 57 (.tmp 53) 0, 0, "machine.go:139", #[⟨9, .data⟩, ⟨0, .phase⟩, ⟨1, .phase⟩, ⟨2, .phase⟩, ⟨3, .phase⟩, ⟨4, .phase⟩, ⟨5, .phase⟩, ⟨6, .phase⟩, ⟨7, .phase⟩, ⟨8, .phase⟩], none⟩ : Oper) ?v33 rfl ?hy33 (by assumption) ?_
      case hy33 => (intro w; go_simp; all_goals (with_reducible rfl))
      try simp only [Act.put, Tl.p2, Tl.p3, Tl.p4]
      refine Tl.stepN (i := 11) (o := (⟨none, .store 44 (.tmp 54) (.tmp 52), 0, "machine.go:139", #[⟨10, .data⟩, ⟨8, .data⟩, ⟨8, .chain⟩, ⟨0, .phase⟩, ⟨1, .phase⟩, ⟨2, .phase⟩, ⟨3, .phase⟩, ⟨4, .phase⟩, ⟨5, .phase⟩, ⟨6, .phase⟩, ⟨7, .phase⟩, ⟨8, .phase⟩], none⟩ : Oper)) (by kernel_rfl) (by kernel_rfl) rfl (fun K hK => ?_)
      refine Mem.step_storePart 44 rfl rfl 0 (news := wA (setR C2 r.toNat z)) rfl rfl 3 M9.out rfl (by rw [wA_size, HSX.out.len]; exact sCpu) (by rw [HSZ.out, wA_size, HSX.out.len]; omega) (wA_one _) ?_
      intro w10 MM'
      rw [patch_cpu HCL.out HSX.out.len] at MM'
      (try simp only [List.set_cons_zero, List.set_cons_succ] at MM')
      have M10 := Lib.hid MM'
      clear MM'
      refine hK.out _ _ ?_
      clear hK K
      try simp only [Act.put, Tl.p2, Tl.p3, Tl.p4]
      refine Tl.done (by kernel_rfl) ?_ _
      clear HCL HSZ
      have HCL := Lib.hid HSX.out.len
      have hcn : ({ d1 with keys := s }).cnt = d.cnt := HCN
      have hc0 := HD.out.cnt
      have e46 := M10.out.cell 3 rfl 46 (mc_dv (mv := memV g cap) (X := X) HCL.out (j := 20) (by decide) rfl)
      have f46 := M10.out.free 3 rfl 46
      have MM' := M10.out.put 3 rfl 46 (.int .u64 (d.cnt + 1))
      rw [set_cnt HCL.out] at MM'
      (try simp only [List.set_cons_zero, List.set_cons_succ] at MM')
      have MT := Lib.hid MM'
      clear MM'
      rw [hcn] at e46
      have hc1 := hc0.1
      have yc : (d.cnt + 1) % 18446744073709551616 = d.cnt + 1 := by omega
      have HCB := Lib.hid (show 0 ≤ d.cnt + 1 ∧ d.cnt + 1 ≤ 1152921504606846976 from ⟨by omega, by omega⟩)
      clear hcn hc0
      go_wp2
      go_ret
      exact ⟨_, _, _, [], L2, rfl, HAV.out (setR C2 r.toNat z) { d1 with keys := s, cnt := d.cnt + 1 } HSX.out { HDA with cnt := HCB.out, keys := HZ.out.2 } rfl (fun _ h => by rw [← HTA]; exact h), by decide, HL2.out, MT.out.rest.rest.nilRow.toFront⟩
    · obtain ⟨vn, rfl, hvn⟩ := wd_nat HV.out
      go_wp2_with fail
      refine (out_any W b T C2 g cap d1 X F L2 p vn hvn HCL.out HDA HL2.out _ M7.out.rest.rest).mono ?_
      rintro e w8 ⟨d2, v8, LO, L3, rfl, hd2, hcn2, hlo, hL3, h8⟩
      have M8 := Lib.hid h8
      have HD2 := Lib.hid hd2
      have HL3 := Lib.hid hL3
      clear h8 hd2 hL3 t0 t1 t2 t3 HSZ
      have hcn : (d2).cnt = d.cnt := hcn2.trans HCN
      have hc0 := HD.out.cnt
      have e46 := M8.out.cell 2 rfl 46 (mc_dv (mv := memV g cap) (X := X) HCL.out (j := 20) (by decide) rfl)
      have f46 := M8.out.free 2 rfl 46
      have MM' := M8.out.put 2 rfl 46 (.int .u64 (d.cnt + 1))
      rw [set_cnt HCL.out] at MM'
      (try simp only [List.set_cons_zero, List.set_cons_succ] at MM')
      have MT := Lib.hid MM'
      clear MM'
      rw [hcn] at e46
      have hc1 := hc0.1
      have yc : (d.cnt + 1) % 18446744073709551616 = d.cnt + 1 := by omega
      have HCB := Lib.hid (show 0 ≤ d.cnt + 1 ∧ d.cnt + 1 ≤ 1152921504606846976 from ⟨by omega, by omega⟩)
      clear hcn hc0
      go_wp2
      go_ret
      exact ⟨_, _, _, LO, L3, rfl, HAV.out C2 { d2 with cnt := d.cnt + 1 } HOK.out { HD2.out with cnt := HCB.out } rfl (fun h => absurd (HK1.out h) (by decide)), hlo, HL3.out, MT.out⟩
    · have e47 := M7.out.cell 3 rfl 47 (mc_dv (mv := memV g cap) (X := X) HCL.out (j := 21) (by decide) rfl)
      have f47 := M7.out.free 3 rfl 47
      have MM' := M7.out.put 3 rfl 47 (.bool true)
      rw [set_wai HCL.out] at MM'
      (try simp only [List.set_cons_zero, List.set_cons_succ] at MM')
      have M8 := Lib.hid MM'
      clear MM'
      have hcn : ({ d1 with wai := true }).cnt = d.cnt := HCN
      have hc0 := HD.out.cnt
      have e46 := M8.out.cell 3 rfl 46 (mc_dv (mv := memV g cap) (X := X) HCL.out (j := 20) (by decide) rfl)
      have f46 := M8.out.free 3 rfl 46
      have MM' := M8.out.put 3 rfl 46 (.int .u64 (d.cnt + 1))
      rw [set_cnt HCL.out] at MM'
      (try simp only [List.set_cons_zero, List.set_cons_succ] at MM')
      have MT := Lib.hid MM'
      clear MM'
      rw [hcn] at e46
      have hc1 := hc0.1
      have yc : (d.cnt + 1) % 18446744073709551616 = d.cnt + 1 := by omega
      have HCB := Lib.hid (show 0 ≤ d.cnt + 1 ∧ d.cnt + 1 ≤ 1152921504606846976 from ⟨by omega, by omega⟩)
      clear hcn hc0
      go_wp2
      go_ret
      exact ⟨_, _, _, [], L2, rfl, HAV.out C2 { d1 with wai := true, cnt := d.cnt + 1 } HOK.out { HDA with cnt := HCB.out } rfl (fun h => absurd (HK1.out h) (by decide)), by decide, HL2.out, MT.out.rest.rest.nilRow.toFront⟩
    · have e48 := M7.out.cell 3 rfl 48 (mc_dv (mv := memV g cap) (X := X) HCL.out (j := 22) (by decide) rfl)
      have f48 := M7.out.free 3 rfl 48
      have MM' := M7.out.put 3 rfl 48 (.bool true)
      rw [set_hal HCL.out] at MM'
      (try simp only [List.set_cons_zero, List.set_cons_succ] at MM')
      have M8 := Lib.hid MM'
      clear MM'
      have hcn : ({ d1 with hal := true }).cnt = d.cnt := HCN
      have hc0 := HD.out.cnt
      have e46 := M8.out.cell 3 rfl 46 (mc_dv (mv := memV g cap) (X := X) HCL.out (j := 20) (by decide) rfl)
      have f46 := M8.out.free 3 rfl 46
      have MM' := M8.out.put 3 rfl 46 (.int .u64 (d.cnt + 1))
      rw [set_cnt HCL.out] at MM'
      (try simp only [List.set_cons_zero, List.set_cons_succ] at MM')
      have MT := Lib.hid MM'
      clear MM'
      rw [hcn] at e46
      have hc1 := hc0.1
      have yc : (d.cnt + 1) % 18446744073709551616 = d.cnt + 1 := by omega
      have HCB := Lib.hid (show 0 ≤ d.cnt + 1 ∧ d.cnt + 1 ≤ 1152921504606846976 from ⟨by omega, by omega⟩)
      clear hcn hc0
      go_wp2
      go_ret
      exact ⟨_, _, _, [], L2, rfl, HAV.out C2 { d1 with hal := true, cnt := d.cnt + 1 } HOK.out { HDA with cnt := HCB.out } rfl (fun h => absurd (HK1.out h) (by decide)), by decide, HL2.out, MT.out.rest.rest.nilRow.toFront⟩
    · have z1 : (k == 1) = false := by rw [beq_eq_false_iff_ne]; exact q1
      have z2 : (k == 2) = false := by rw [beq_eq_false_iff_ne]; exact q2
      have z3 : (k == 3) = false := by rw [beq_eq_false_iff_ne]; exact q3
      have z4' : (k == 4) = false := by rw [beq_eq_false_iff_ne]; exact q4
      have HQ1 := Lib.hid q1
      clear q1 q2 q3 q4
      have hcn : (d1).cnt = d.cnt := HCN
      have hc0 := HD.out.cnt
      have e46 := M7.out.cell 3 rfl 46 (mc_dv (mv := memV g cap) (X := X) HCL.out (j := 20) (by decide) rfl)
      have f46 := M7.out.free 3 rfl 46
      have MM' := M7.out.put 3 rfl 46 (.int .u64 (d.cnt + 1))
      rw [set_cnt HCL.out] at MM'
      (try simp only [List.set_cons_zero, List.set_cons_succ] at MM')
      have MT := Lib.hid MM'
      clear MM'
      rw [hcn] at e46
      have hc1 := hc0.1
      have yc : (d.cnt + 1) % 18446744073709551616 = d.cnt + 1 := by omega
      have HCB := Lib.hid (show 0 ≤ d.cnt + 1 ∧ d.cnt + 1 ≤ 1152921504606846976 from ⟨by omega, by omega⟩)
      clear hcn hc0
      go_wp2
      go_ret
      exact ⟨_, _, _, [], L2, rfl, HAV.out C2 { d1 with cnt := d.cnt + 1 } HOK.out { HDA with cnt := HCB.out } rfl (fun h => absurd (HK1.out h) HQ1.out), by decide, HL2.out, MT.out.rest.rest.nilRow.toFront⟩
end Ma
end Go.Proofs.YtdacgdokbfcgdaaGreat

namespace Go.Proofs.YtdacgdokbfcgdaaGreat.Uv

/-- The encoding with fuel. -/
def putF : Nat → Nat → List UInt8
  | 0, x => [UInt8.ofNat x]
  | f + 1, x => if 128 ≤ x then UInt8.ofNat (x % 128 + 128) :: putF f (x / 128) else [UInt8.ofNat x]
/-- The encoding of a number below 2^64. -/
def put (x : Nat) : List UInt8 := putF 10 x

/-- The reader: i bytes are read, x is gathered. -/
def rd (i x : Nat) : List UInt8 → Option (Nat × Nat)
  | [] => none
  | b :: t => if 10 ≤ i then none else if i = 9 ∧ 1 < b.toNat then none
    else if 128 ≤ b.toNat then rd (i + 1) (x + (b.toNat - 128) * 128 ^ i) t
    else if b.toNat = 0 ∧ 0 < i then none else some (x + b.toNat * 128 ^ i, i + 1)

theorem putF_len_bits : ∀ f k x, x < 128 ^ k → 1 ≤ k → k ≤ f + 1 → (putF f x).length ≤ k
  | 0, k, x, h, h1, _ => by simp [putF]; omega
  | f + 1, k, x, h, h1, h2 => by
    unfold putF; split
    · rename_i hx
      match k, h1 with
      | 1, _ => simp at h; omega
      | k + 2, _ =>
        simp only [List.length_cons]
        have := putF_len_bits f (k + 1) (x / 128) (by rw [Nat.pow_succ] at h; exact Nat.div_lt_of_lt_mul (by rw [Nat.mul_comm]; exact h)) (by omega) (by omega)
        omega
    · simp; omega
theorem pow10 : (128 : Nat) ^ 10 = 1180591620717411303424 := by decide
theorem put_len (x : Nat) (h : x < 18446744073709551616) : (put x).length ≤ 10 :=
  putF_len_bits 10 10 x (by rw [pow10]; omega) (by omega) (by omega)
theorem ofNat_toNat {n : Nat} (h : n < 256) : (UInt8.ofNat n).toNat = n := by
  simp [UInt8.toNat_ofNat']; omega

/-- Fuel beyond need changes nothing. -/
theorem putF_fuel : ∀ f g k x, x < 128 ^ k → 1 ≤ k → k ≤ f + 1 → k ≤ g + 1 → putF f x = putF g x
  | 0, 0, _, _, _, _, _, _ => rfl
  | 0, g + 1, k, x, h, h1, h2, _ => by
    obtain rfl : k = 1 := by omega
    simp at h
    simp [putF]; omega
  | f + 1, 0, k, x, h, h1, _, h2 => by
    obtain rfl : k = 1 := by omega
    simp at h
    simp [putF]; omega
  | f + 1, g + 1, k, x, h, h1, h2, h3 => by
    unfold putF
    split
    · rename_i hx
      match k, h1 with
      | 1, _ => simp at h; omega
      | k + 2, _ =>
        rw [putF_fuel f g (k + 1) (x / 128) (by rw [Nat.pow_succ] at h; exact Nat.div_lt_of_lt_mul (by rw [Nat.mul_comm]; exact h)) (by omega) (by omega) (by omega)]
    · rfl
/-- The step of the encoding. -/
theorem put_step (x : Nat) (h : x < 18446744073709551616) (hx : 128 ≤ x) : put x = UInt8.ofNat (x % 128 + 128) :: put (x / 128) := by
  have e : putF 9 (x / 128) = putF 10 (x / 128) := putF_fuel 9 10 10 (x / 128) (by rw [pow10]; omega) (by omega) (by omega) (by omega)
  unfold put
  rw [← e]
  show putF (9 + 1) x = _
  rw [putF, if_pos hx]
theorem put_small (x : Nat) (hx : x < 128) : put x = [UInt8.ofNat x] := by
  unfold put; show putF (9 + 1) x = _; rw [putF, if_neg (by omega)]

theorem pow_split (i : Nat) (x : Nat) : x % 128 * 128 ^ i + x / 128 * 128 ^ (i + 1) = x * 128 ^ i := by
  rw [Nat.pow_succ, Nat.mul_comm (128 ^ i) 128, ← Nat.mul_assoc, ← Nat.add_mul]
  congr 1; omega

/-- What is written is read, whatever follows it. -/
theorem rd_putF : ∀ f i x a t, i + f = 9 → (x * 128 ^ i < 18446744073709551616) → (x = 0 → i = 0) → rd i a (putF f x ++ t) = some (a + x * 128 ^ i, i + (putF f x).length)
  | 0, i, x, a, t, hi, hx, h0 => by
    obtain rfl : i = 9 := by omega
    have h9 : (128 : Nat) ^ 9 = 9223372036854775808 := by decide
    rw [h9] at hx
    have hxs : x ≤ 1 := by omega
    simp only [putF, List.cons_append, List.nil_append, rd, List.length_cons, List.length_nil]
    rw [ofNat_toNat (by omega), if_neg (by omega), if_neg (by omega), if_neg (by omega), if_neg (by omega)]
  | f + 1, i, x, a, t, hi, hx, h0 => by
    unfold putF
    split
    · rename_i h128
      simp only [List.cons_append, rd, List.length_cons]
      rw [ofNat_toNat (by omega), if_neg (by omega), if_neg (by omega), if_pos (by omega)]
      rw [rd_putF f (i + 1) (x / 128) _ t (by omega) (by have := pow_split i x; omega) (by omega)]
      have e : x % 128 + 128 - 128 = x % 128 := by omega
      rw [e, Nat.add_assoc a, pow_split i x]
      exact congrArg some (Prod.ext rfl (by show i + 1 + (putF f (x / 128)).length = i + ((putF f (x / 128)).length + 1); omega))
    · simp only [List.cons_append, List.nil_append, rd, List.length_cons, List.length_nil]
      rw [ofNat_toNat (by omega), if_neg (by omega), if_neg (by omega), if_neg (by omega), if_neg (by omega)]

theorem putF_9_10 (x : Nat) (h : x < 18446744073709551616) : putF 9 x = put x :=
  putF_fuel 9 10 10 x (by rw [pow10]; omega) (by omega) (by omega) (by omega)
theorem rd_put (x : Nat) (h : x < 18446744073709551616) (t : List UInt8) : rd 0 0 (put x ++ t) = some (x, (put x).length) := by
  rw [← putF_9_10 x h, rd_putF 9 0 x 0 t (by omega) (by simpa using h) (by simp)]
  simp

/-- What is read is written. -/
theorem putF_rd : ∀ f i a (s : List UInt8) v n, i + f = 9 → rd i a s = some (v, n) →
    ∃ x, v = a + x * 128 ^ i ∧ x * 128 ^ i < 18446744073709551616 ∧ i < n ∧ n - i ≤ s.length ∧ putF f x = s.take (n - i) ∧ (x = 0 → i = 0)
  | f, i, a, [], v, n, hi, h => by simp [rd] at h
  | f, i, a, b :: t, v, n, hi, h => by
    have hb := b.toNat_lt
    simp only [rd] at h
    rw [if_neg (by omega)] at h
    split at h
    · simp at h
    · rename_i h9
      split at h
      · rename_i h128
        match f with
        | 0 => omega
        | f + 1 =>
          obtain ⟨x, hv, hlt, hin, hnl, hp, hz⟩ := putF_rd f (i + 1) _ t v n (by omega) h
          refine ⟨(b.toNat - 128) + x * 128, ?_, ?_, by omega, by simp; omega, ?_, by omega⟩
          · rw [hv, Nat.add_mul, Nat.add_assoc, Nat.pow_succ, Nat.mul_comm (128 ^ i) 128, Nat.mul_assoc]
          · have hp0 : 0 < 128 ^ i := Nat.pow_pos (by omega)
            have e : ((b.toNat - 128) + x * 128) * 128 ^ i = (b.toNat - 128) * 128 ^ i + x * 128 ^ (i + 1) := by
              rw [Nat.add_mul, Nat.pow_succ, Nat.mul_comm (128 ^ i) 128, Nat.mul_assoc]
            rw [e]
            have h1 : (b.toNat - 128) * 128 ^ i ≤ 127 * 128 ^ i := Nat.mul_le_mul_right _ (by omega)
            -- x * 128^(i+1) is a multiple of 128^(i+1), below 2^64 = 2 * 128^9
            have hi8 : i ≤ 8 := by omega
            obtain ⟨d, hd⟩ : ∃ d, 9 = (i + 1) + d := ⟨8 - i, by omega⟩
            have e9 : (18446744073709551616 : Nat) = (2 * 128 ^ d) * 128 ^ (i + 1) := by
              rw [Nat.mul_assoc, ← Nat.pow_add, Nat.add_comm d (i + 1), ← hd]
            rw [e9] at hlt ⊢
            have hx1 : x + 1 ≤ 2 * 128 ^ d := Nat.lt_of_mul_lt_mul_right hlt
            have h2 : (x + 1) * 128 ^ (i + 1) ≤ (2 * 128 ^ d) * 128 ^ (i + 1) := Nat.mul_le_mul_right _ hx1
            rw [Nat.add_mul, Nat.one_mul] at h2
            have h3 : 128 ^ (i + 1) = 128 * 128 ^ i := by rw [Nat.pow_succ, Nat.mul_comm]
            omega
          · have e : n - i = (n - (i + 1)) + 1 := by omega
            rw [e, List.take_succ_cons, ← hp]
            have hx0 : 1 ≤ x := by
              rcases Nat.eq_zero_or_pos x with h | h
              · exact absurd (hz h) (by omega)
              · exact h
            rw [putF, if_pos (by omega)]
            congr 1
            · apply UInt8.toNat_inj.1; rw [ofNat_toNat (by omega)]; omega
            · congr 1; omega
      · rename_i h128
        split at h
        · simp at h
        · rename_i h0
          simp only [Option.some.injEq, Prod.mk.injEq] at h
          obtain ⟨rfl, rfl⟩ := h
          refine ⟨b.toNat, rfl, ?_, by omega, by simp, ?_, by omega⟩
          · by_cases h9' : i = 9
            · subst h9'
              have : b.toNat ≤ 1 := by omega
              have h9 : (128 : Nat) ^ 9 = 9223372036854775808 := by decide
              rw [h9]; omega
            · obtain ⟨d, hd⟩ : ∃ d, 9 = (i + 1) + d := ⟨8 - i, by omega⟩
              have e9 : (18446744073709551616 : Nat) = (2 * 128 ^ d * 128) * 128 ^ i := by
                rw [Nat.mul_assoc, Nat.mul_assoc, Nat.mul_comm 128 (128 ^ i), ← Nat.pow_succ, ← Nat.pow_add, Nat.add_comm d, ← hd]
              rw [e9]
              have hd0 : 1 ≤ 128 ^ d := Nat.pow_pos (by omega)
              exact Nat.mul_lt_mul_of_pos_right (by omega) (Nat.pow_pos (by omega))
          · have e : i + 1 - i = 1 := by omega
            rw [e]
            simp only [List.take_succ_cons, List.take_zero]
            match f with
            | 0 => simp [putF]
            | f + 1 => rw [putF, if_neg (by omega)]; simp

theorem put_rd {s : List UInt8} {v n : Nat} (h : rd 0 0 s = some (v, n)) : v < 18446744073709551616 ∧ 1 ≤ n ∧ n ≤ s.length ∧ put v = s.take n := by
  obtain ⟨x, hv, hlt, hin, hnl, hp, _⟩ := putF_rd 9 0 0 s v n (by omega) h
  simp at hv hlt hnl hp
  subst hv
  exact ⟨hlt, by omega, hnl, by rw [← putF_9_10 v hlt, hp]⟩
/-- The three results of the reader. -/
def uvX (l : List UInt8) : Nat := match rd 0 0 l with | some (v, _) => v | none => 0
def uvN (l : List UInt8) : Nat := match rd 0 0 l with | some (_, n) => n | none => 0
def uvB (l : List UInt8) : Bool := match rd 0 0 l with | some _ => true | none => false
theorem uv_none {l : List UInt8} (h : rd 0 0 l = none) : uvX l = 0 ∧ uvN l = 0 ∧ uvB l = false := by simp [uvX, uvN, uvB, h]
theorem uv_some {l : List UInt8} {v n : Nat} (h : rd 0 0 l = some (v, n)) : uvX l = v ∧ uvN l = n ∧ uvB l = true := by simp [uvX, uvN, uvB, h]
theorem uvX_lt (l : List UInt8) : uvX l < 18446744073709551616 := by
  unfold uvX; split
  · rename_i v n h; exact (put_rd h).1
  · omega
theorem uvN_le (l : List UInt8) : uvN l ≤ l.length := by
  unfold uvN; split
  · rename_i v n h; exact (put_rd h).2.2.1
  · omega
theorem rd_ten (x : Nat) (l : List UInt8) : rd 10 x l = none := by cases l <;> simp [rd]
theorem rd_nine {b : UInt8} (x : Nat) (t : List UInt8) (h : 1 < b.toNat) : rd 9 x (b :: t) = none := by simp [rd, h]
theorem rd_more {b : UInt8} (i x : Nat) (t : List UInt8) (hi : i < 10) (h9 : ¬ (i = 9 ∧ 1 < b.toNat)) (h : 128 ≤ b.toNat) : rd i x (b :: t) = rd (i + 1) (x + b.toNat % 128 * 128 ^ i) t := by
  rw [rd, if_neg (by omega), if_neg h9, if_pos h, show b.toNat - 128 = b.toNat % 128 by have := b.toNat_lt; omega]
theorem rd_zero {b : UInt8} (i x : Nat) (t : List UInt8) (hi : i < 10) (h9 : ¬ (i = 9 ∧ 1 < b.toNat)) (h : b.toNat = 0) (h0 : 0 < i) : rd i x (b :: t) = none := by
  rw [rd, if_neg (by omega), if_neg h9, if_neg (by omega), if_pos ⟨h, h0⟩]
theorem rd_last {b : UInt8} (i x : Nat) (t : List UInt8) (hi : i < 10) (h9 : ¬ (i = 9 ∧ 1 < b.toNat)) (h : b.toNat < 128) (h0 : ¬ (b.toNat = 0 ∧ 0 < i)) : rd i x (b :: t) = some (x + b.toNat % 128 * 128 ^ i, i + 1) := by
  rw [rd, if_neg (by omega), if_neg h9, if_neg (by omega), if_neg h0, Nat.mod_eq_of_lt h]
/-- A group joined to what was read before. -/
theorem join_lt {x c i : Nat} (hx : x < 128 ^ i) (hc : c < 128) : x + c * 128 ^ i < 128 ^ (i + 1) := by
  rw [Nat.pow_succ, Nat.mul_comm (128 ^ i)]
  have : c * 128 ^ i ≤ 127 * 128 ^ i := Nat.mul_le_mul_right _ (by omega)
  omega
theorem p7 (i : Nat) : 2 ^ (7 * i) = 128 ^ i := by rw [Nat.pow_mul]
theorem small_group {c i : Nat} (hi : i < 10) (hc : c < 128) (h9 : i = 9 → c ≤ 1) : c * 128 ^ i < 18446744073709551616 := by
  by_cases h : i = 9
  · subst h
    have h9' : (128 : Nat) ^ 9 = 9223372036854775808 := by decide
    rw [h9']; have := h9 rfl; omega
  · have h1 : c * 128 ^ i ≤ 127 * 128 ^ 8 := Nat.mul_le_mul (by omega) (Nat.pow_le_pow_right (by omega) (by omega))
    have h8 : (128 : Nat) ^ 8 = 72057594037927936 := by decide
    rw [h8] at h1; omega
theorem acc_lt {x i : Nat} (hi : i ≤ 9) (hx : x < 128 ^ i) : x < 18446744073709551616 := by
  have h1 : 128 ^ i ≤ 128 ^ 9 := Nat.pow_le_pow_right (by omega) hi
  have h9' : (128 : Nat) ^ 9 = 9223372036854775808 := by decide
  rw [h9'] at h1; omega
/-- Or is plus. -/
theorem join {x c i : Nat} (hx : x < 128 ^ i) (hi : i < 10) (hc : c < 128) (h9 : i = 9 → c ≤ 1) : x ||| (c * 2 ^ (7 * i) % 18446744073709551616) = x + c * 128 ^ i := by
  rw [p7, Nat.mod_eq_of_lt (small_group hi hc h9), Nat.or_comm, ← p7]
  rw [nat_join (7 * i) _ _ (Nat.mul_mod_left _ _) (by rw [p7]; exact hx), Nat.add_comm]
end Go.Proofs.YtdacgdokbfcgdaaGreat.Uv

namespace Go.Proofs.YtdacgdokbfcgdaaGreat.Hs
/-- One byte. -/
def step (h : Nat) (c : UInt8) : Nat := (h ^^^ c.toNat) * 1099511628211 % 18446744073709551616
/-- A list of bytes. -/
def hash (h : Nat) (l : List UInt8) : Nat := l.foldl step h

theorem step_lt (h : Nat) (c : UInt8) : step h c < 18446744073709551616 := Nat.mod_lt _ (by omega)
theorem hash_lt (h : Nat) (l : List UInt8) (hh : h < 18446744073709551616) : hash h l < 18446744073709551616 := by
  unfold hash
  induction l generalizing h with
  | nil => exact hh
  | cons c l ih => exact ih _ (step_lt _ _)
theorem hash_append (h : Nat) (a b : List UInt8) : hash h (a ++ b) = hash (hash h a) b := List.foldl_append
theorem hash_cons (h : Nat) (c : UInt8) (b : List UInt8) : hash h (c :: b) = hash (step h c) b := rfl
theorem hash_nil (h : Nat) : hash h [] = h := rfl
theorem hash_snoc (h : Nat) (a : List UInt8) (c : UInt8) : hash h (a ++ [c]) = step (hash h a) c := by rw [hash_append, hash_cons, hash_nil]

end Go.Proofs.YtdacgdokbfcgdaaGreat.Hs
