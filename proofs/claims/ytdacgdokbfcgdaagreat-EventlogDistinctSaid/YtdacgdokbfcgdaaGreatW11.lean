/-
  Contracts of the reference's machine: ports, written.
  Contracts of the reference's machine: events, applied.
-/
import Derived.Test.YtdacgdokbfcgdaaGreatW10
set_option linter.unusedVariables false
set_option linter.unusedSimpArgs false
set_option maxRecDepth 100000
namespace Go.Proofs.YtdacgdokbfcgdaaGreat
open Go.RowKit Go.BigFrame Go.Sort Go.Lib
namespace Ma
abbrev memV (g cap : Nat) : Value := .slice (some ⟨g, 0, none⟩) 256 cap
def OutTo (W : World) (b : Nat) (T : TypeId) (C : List Int) (g cap : Nat) (d : Dv) (X : List Value) (F : List Ck) (e : Ending) (w' : World) : Prop :=
  ∃ (d' : Dv) (v : Value) (LO : List Ou) (L' : List Int), e = .returned v ∧ DvOK d' ∧ d'.cnt = d.cnt ∧ LO.length ≤ 1 ∧ MemOK L' ∧ Mem W w' (outR W.heap.size v LO :: memR W.heap.size g cap L' :: macB b T C (memV g cap) d' X :: F)
set_option maxHeartbeats 8000000 in
theorem out_any (W : World) (b : Nat) (T : TypeId) (C : List Int) (g cap : Nat) (d : Dv) (X : List Value) (F : List Ck) (L : List Int) (p : Int) (v : Nat) (hv : v < 4294967296) (hC : C.length = 25) (hd : DvOK d) (hL : MemOK L) (w : World) (hM : Mem W w (memR W.heap.size g cap L :: macB b T C (memV g cap) d X :: F)) :
    Calls Tryz.prog 96 #[.pointer (some ⟨b, 0, none⟩), .int .i64 p, .int .u32 (v : Int)] w (OutTo W b T C g cap d X F) := by
  have HCL := Lib.hid hC
  have HSZ : Is (mcA C (memV g cap) d X).size (49 + X.length) := ⟨mc_size hC⟩
  have M0 := Lib.hid hM
  have HD := Lib.hid hd
  have HL := Lib.hid hL
  have c25 := mc_mem (mv := memV g cap) (d := d) (X := X) hC
  have c46 := mc_dv (mv := memV g cap) (X := X) hC (j := 20) (by decide) (v := .int .u64 d.cnt) rfl
  have HB := Lib.hid fun (w' : World) (h : w'.heap[b]? = some (.cells (mcA C (memV g cap) d X) T (0, 0))) => (⟨h, Bx.cell h 25 c25, Bx.cell h 46 c46⟩ : _ ∧ _ ∧ _)
  have zv : (v : Int) ≤ 4294967295 := by omega
  have zv0 : (0 : Int) ≤ v := by omega
  have hlt := M0.out.lt 1 rfl
  obtain ⟨dfr, hdf, hdf2⟩ := wd_nat hd.dfr
  obtain ⟨nfr, hnf, hnf2⟩ := wd_nat hd.nfr
  obtain ⟨nln, hnl, hnl2⟩ := wd_nat hd.nln
  have HDK : ∀ q : Int, (q = 4 ∨ q = 5 ∨ q = 6) → ∀ w, Mem W w (memR W.heap.size g cap L :: macB b T C (memV g cap) d X :: F) → Calls Tryz.prog 128 #[.agg (dskV d), memV g cap, .int .i64 q, .int .u32 (v : Int), .int .u64 d.cnt] w (DsoTo W g cap L (macB b T C (memV g cap) d X :: F)) := by
    intro q hq w hM
    have hok : DskOK d.dbs d.dbl (dfr : Int) d.dst d.dcm d.dob d.dof d.dod := ⟨hd.dbs, hd.dbl, ⟨by omega, by omega⟩, hd.dst, hd.dcm, hd.dob, hd.dof, hd.dod⟩
    unfold dskV
    rw [hdf]
    rcases hq with rfl | rfl | rfl
    · exact diskout_4 W g cap _ _ _ _ _ _ _ _ _ _ hok hv L _ w hM hL
    · exact diskout_5 W g cap _ _ _ _ _ _ _ _ _ _ hok hv L _ w hM hL
    · exact diskout_6 W g cap _ _ _ _ _ _ _ _ _ _ hok hv L _ w hM hL
  have HNK : ∀ q : Int, (q = 7 ∨ q = 8 ∨ q = 9) → ∀ w, Mem W w (memR W.heap.size g cap L :: macB b T C (memV g cap) d X :: F) → Calls Tryz.prog 129 #[.agg (nicV d), memV g cap, .int .i64 q, .int .u32 (v : Int), .int .u64 d.cnt] w (NcoTo W g cap L (macB b T C (memV g cap) d X :: F)) := by
    intro q hq w hM
    have hok : NicOK (nfr : Int) (nln : Int) d.nbu d.ngo := ⟨⟨by omega, by omega⟩, ⟨by omega, by omega⟩, hd.nbu, hd.ngo⟩
    unfold nicV
    rw [hnf, hnl]
    rcases hq with rfl | rfl | rfl
    · exact nicout_7 W g cap _ _ _ _ _ _ _ _ hok hv L _ w hM hL
    · exact nicout_8 W g cap _ _ _ _ _ _ _ _ hok hv L _ w hM hL
    · exact nicout_9 W g cap _ _ _ _ _ _ _ _ hok hv L _ w hM hL
  have HDO := Lib.hid HDK
  have HNO := Lib.hid HNK
  have HGI := Lib.hid fun (w' : World) (h : Mem W w' (memR W.heap.size g cap L :: macB b T C (memV g cap) d X :: F)) => give_any W g cap d.bta d.bgi p v hv hd.bgi L _ hL w' h
  have HAR := Lib.hid fun w => arm_any (v : Int) w
  unfold DsoTo at HDO
  unfold NcoTo at HNO
  unfold GivTo at HGI
  have HWV := Lib.hid (show Wd (v : Int) from ⟨zv0, zv⟩)
  clear hM hd hC hL hv HDK HNK hdf hnf hnl hdf2 hnf2 hnl2
  by_cases h0 : p = 0
  · subst h0
    obtain ⟨c, hc⟩ : ∃ c : UInt8, (v : Int) % 256 = (c.toNat : Int) := ⟨_, mod8I _⟩
    have HCc := Lib.hid fun (w' : World) => By.one_cell w' (c.toNat : Int) c rfl 5
    have HB0 := Lib.hid fun (w' a : World) (k : Held (w'.alloc (.cells #[.int .u8 (c.toNat : Int)] 5)) a) => By.bytes_back a ⟨w'.heap.size, 0, none⟩ 1 [c] (fun j hj => k.cell (HCc.out w' j hj))
    simp only [List.length_singleton] at HB0
    have hb1 := HB0.out w (w.alloc (.cells #[.int .u8 (c.toNat : Int)] 5)).drew (Held.refl _).drew
    have hcw : IntKind.u8.wrap (v : Int) = (c.toNat : Int) := by rw [IntKind.wrap_u8]; exact hc
    clear hc
    clear HDO HNO HGI HAR HCc
    go_enter Tryz.func96, Tryz.ntmps96
    go_upto_region 4 with fail
    refine Tl.start 11 (fun w' => w'.heap[b]? = some (.cells (mcA C (memV g cap) d X) T (0, 0)) ∧ w'.cell? ⟨b, 25, none⟩ = some (memV g cap) ∧ w'.cell? ⟨b, 46, none⟩ = some (.int .u64 d.cnt)) (by kernel_rfl) (HB.out _ (M0.out.drew.blk 1 rfl)) (fun hHeld => ?_)
    refine Tl.tf 0 (⟨some 25, .move (.tmp 0), 131, "machine.go:115", #[], none⟩ : Oper) ?v1 rfl ?hy1 (by assumption) ?_
    case hy1 => (intro w; go_simp; all_goals (with_reducible rfl))
    try simp only [Act.put, Tl.p2, Tl.p3, Tl.p4]
    refine Tl.tf 1 (⟨some 26, .nilCheck (.tmp 25), 0, "machine.go:115", #[⟨0, .data⟩], none⟩ : Oper) ?v2 rfl ?hy2 (by assumption) ?_
    case hy2 => (intro w; go_simp; all_goals (with_reducible rfl))
    try simp only [Act.put, Tl.p2, Tl.p3, Tl.p4]
    refine Tl.tf 2 (⟨some 27, .fieldAddr 57 (.tmp 26) 7, 0, "machine.go:115", #[⟨1, .data⟩], none⟩ : Oper) ?v3 rfl ?hy3 (by assumption) ?_
    case hy3 => (intro w; go_simp; all_goals (with_reducible rfl))
    try simp only [Act.put, Tl.p2, Tl.p3, Tl.p4]
    refine Tl.tk 3 (⟨some 28, .load 30 (.tmp 27), 30, "machine.go:115", #[⟨2, .data⟩], none⟩ : Oper) ?v4 rfl ?hy4 (by assumption) ?_
    case hy4 => (intro w hSw; (try dsimp only at hSw); go_simp; all_goals (with_reducible rfl))
    try simp only [Act.put, Tl.p2, Tl.p3, Tl.p4]
    refine Tl.tf 4 (⟨some 29, .move (.tmp 2), 40, "machine.go:115", #[], none⟩ : Oper) ?v5 rfl ?hy5 (by assumption) ?_
    case hy5 => (intro w; go_simp; all_goals (with_reducible rfl))
    try simp only [Act.put, Tl.p2, Tl.p3, Tl.p4]
    refine Tl.tf 5 (⟨some 30, .convert 40 5 (.tmp 29), 5, "machine.go:115", #[⟨4, .data⟩], none⟩ : Oper) ?v6 rfl ?hy6 (by assumption) ?_
    case hy6 => (intro w; go_simp; all_goals (with_reducible rfl))
    try simp only [Act.put, Tl.p2, Tl.p3, Tl.p4]
    refine Tl.step (i := 6) (o := (⟨some 31, .buildSlice 37 1 #[(0, .tmp 30)], 37, "machine.go:115", #[⟨5, .data⟩], none⟩ : Oper)) (by kernel_rfl) rfl (fun K hK => ?_)
    go_simp
    have Ma := Lib.hid (M0.out.skip (.cells #[.int .u8 (c.toNat : Int)] 5))
    have M1 := Lib.hid Ma.out.drew
    refine hK.out _ _ (HB.out _ (M1.out.blk 1 rfl)) (fun hHeld => ?_)
    clear hK K
    try simp only [Act.put, Tl.p2, Tl.p3, Tl.p4]
    refine Tl.step (i := 7) (o := (⟨some 32, .convert 37 9 (.tmp 31), 9, "machine.go:115", #[⟨6, .data⟩], none⟩ : Oper)) (by kernel_rfl) rfl (fun K hK => ?_)
    go_simp
    refine hK.out _ _ (HB.out _ (M1.out.blk 1 rfl)) (fun hHeld => ?_)
    clear hK K
    try simp only [Act.put, Tl.p2, Tl.p3, Tl.p4]
    refine Tl.tf 8 (⟨some 33, .build 215 #[(0, .const (.int .i64 1)), (1, .tmp 28), (3, .tmp 32)], 215, "machine.go:115", #[⟨3, .data⟩, ⟨7, .data⟩], none⟩ : Oper) ?v7 rfl ?hy7 (by assumption) ?_
    case hy7 => (intro w; go_simp; all_goals (with_reducible rfl))
    try simp only [Act.put, Tl.p2, Tl.p3, Tl.p4]
    refine Tl.step (i := 9) (o := (⟨some 34, .buildSlice 62 1 #[(0, .tmp 33)], 62, "machine.go:115", #[⟨8, .data⟩], none⟩ : Oper)) (by kernel_rfl) rfl (fun K hK => ?_)
    go_simp
    have M2 := Lib.hid ((Ma.out.lit (e := 215) (s := 4) (f := oC) ⟨1, d.cnt, 0, ⟨#[c]⟩⟩ rfl #[.int .i64 1, .int .u64 d.cnt, .int .u32 0, .string ⟨#[c]⟩] rfl (b := w.heap.size + 1) (by simp)).drew)
    refine hK.out _ _ (HB.out _ (M2.out.blk 2 rfl)) (fun hHeld => ?_)
    clear hK K
    try simp only [Act.put, Tl.p2, Tl.p3, Tl.p4]
    refine Tl.tf 10 (⟨some 7, .assign (.tmp 34), 62, "machine.go:115", #[⟨9, .data⟩, ⟨0, .phase⟩, ⟨1, .phase⟩, ⟨2, .phase⟩, ⟨3, .phase⟩, ⟨4, .phase⟩, ⟨5, .phase⟩, ⟨6, .phase⟩, ⟨7, .phase⟩, ⟨8, .phase⟩, ⟨9, .phase⟩], none⟩ : Oper) ?v8 rfl ?hy8 (by assumption) ?_
    case hy8 => (intro w; go_simp; all_goals (with_reducible rfl))
    try simp only [Act.put, Tl.p2, Tl.p3, Tl.p4]
    refine Tl.done (by kernel_rfl) ?_ _
    go_wp2
    go_ret
    exact ⟨d, _, _, L, rfl, HD.out, rfl, Nat.le_refl _, HL.out, M2.out⟩
  · have z0 : (p == 0) = false := by rw [beq_eq_false_iff_ne]; exact h0
    by_cases h2 : p ≤ 2
    · go_enter Tryz.func96, Tryz.ntmps96
      go_wp2
      go_ret
      exact ⟨d, _, [], L, rfl, HD.out, rfl, by decide, HL.out, M0.out.nilRow.toFront⟩
    · by_cases h3 : p = 3
      · subst h3
        clear HDO HNO HGI
        go_enter Tryz.func96, Tryz.ntmps96
        go_wp2_with fail
        refine (HAR.out _).mono ?_
        rintro e w3 ⟨ta, td, rfl, hw, h3⟩
        have M3 := Lib.hid (M0.out.keep h3)
        have HW := Lib.hid (hw HWV.out)
        clear hw h3
        go_wp2_with (show wpList _ _ _ ((⟨_, Op.store 49 _ _, _, _, _, _⟩ : Oper) :: _) _ _; refine Mem.go_storePart 49 rfl rfl 27 (news := #[.bool ta, .int .u32 td, .bool false]) rfl rfl 1 M3.out rfl sTim (by rw [HSZ.out]; exact Nat.le_trans (by decide : 27 + 3 ≤ 49) (Nat.le_add_right _ _)) (by intro v hv; simp at hv; (repeat' rcases hv with rfl | hv) <;> (try subst hv) <;> rfl) ?_; intro w4 M4'; rw [patch_tim HCL.out] at M4'; have M4 := Lib.hid M4'; clear M4')
        go_ret
        exact ⟨{ d with ta := ta, td := td, tf := false }, _, [], L, rfl, { HD.out with td := HW.out }, rfl, by decide, HL.out, M4.out.nilRow.toFront⟩
      · have z3 : (p == 3) = false := by rw [beq_eq_false_iff_ne]; exact h3
        by_cases h6 : p ≤ 6
        · have hp := HDO.out p (by omega)
          have HP := Lib.hid hp
          clear hp h0 h3 HNO HGI HAR HDO
          go_enter Tryz.func96, Tryz.ntmps96
          go_upto_region 9 with fail
          refine Tl.start 21 (fun w' => w'.heap[b]? = some (.cells (mcA C (memV g cap) d X) T (0, 0)) ∧ w'.cell? ⟨b, 25, none⟩ = some (memV g cap) ∧ w'.cell? ⟨b, 46, none⟩ = some (.int .u64 d.cnt)) (by kernel_rfl) (HB.out _ (M0.out.drew.blk 1 rfl)) (fun hHeld => ?_)
          refine Tl.tf 0 (⟨some 50, .move (.tmp 0), 131, "machine.go:120", #[], none⟩ : Oper) ?v9 rfl ?hy9 (by assumption) ?_
          case hy9 => (intro w; go_simp; all_goals (with_reducible rfl))
          try simp only [Act.put, Tl.p2, Tl.p3, Tl.p4]
          refine Tl.tf 1 (⟨some 51, .move (.tmp 0), 131, "machine.go:120", #[], none⟩ : Oper) ?v10 rfl ?hy10 (by assumption) ?_
          case hy10 => (intro w; go_simp; all_goals (with_reducible rfl))
          try simp only [Act.put, Tl.p2, Tl.p3, Tl.p4]
          refine Tl.tf 2 (⟨some 52, .nilCheck (.tmp 51), 0, "machine.go:120", #[⟨1, .data⟩], none⟩ : Oper) ?v11 rfl ?hy11 (by assumption) ?_
          case hy11 => (intro w; go_simp; all_goals (with_reducible rfl))
          try simp only [Act.put, Tl.p2, Tl.p3, Tl.p4]
          refine Tl.tf 3 (⟨some 53, .fieldAddr 57 (.tmp 52) 4, 0, "machine.go:120", #[⟨2, .data⟩], none⟩ : Oper) ?v12 rfl ?hy12 (by assumption) ?_
          case hy12 => (intro w; go_simp; all_goals (with_reducible rfl))
          try simp only [Act.put, Tl.p2, Tl.p3, Tl.p4]
          refine Tl.ty 4 (⟨some 54, .load 51 (.tmp 53), 51, "machine.go:120", #[⟨3, .data⟩], none⟩ : Oper) (.agg (dskV d)) rfl (Big.yields_part 51 rfl rfl 30 8 rfl (fun w' h => h.1) uDsk sDsk (by rw [HSZ.out]; exact Nat.le_trans (by decide : 30 + 8 ≤ 49) (Nat.le_add_right _ _)) (take_dsk HCL.out)) (by assumption) ?_
          try simp only [Act.put, Tl.p2, Tl.p3, Tl.p4]
          refine Tl.tf 5 (⟨some 55, .move (.tmp 0), 131, "machine.go:120", #[], none⟩ : Oper) ?v14 rfl ?hy14 (by assumption) ?_
          case hy14 => (intro w; go_simp; all_goals (with_reducible rfl))
          try simp only [Act.put, Tl.p2, Tl.p3, Tl.p4]
          refine Tl.tf 6 (⟨some 56, .nilCheck (.tmp 55), 0, "machine.go:120", #[⟨5, .data⟩], none⟩ : Oper) ?v15 rfl ?hy15 (by assumption) ?_
          case hy15 => (intro w; go_simp; all_goals (with_reducible rfl))
          try simp only [Act.put, Tl.p2, Tl.p3, Tl.p4]
          refine Tl.tf 7 (⟨some 57, .fieldAddr 57 (.tmp 56) 1, 0, "machine.go:120", #[⟨6, .data⟩], none⟩ : Oper) ?v16 rfl ?hy16 (by assumption) ?_
          case hy16 => (intro w; go_simp; all_goals (with_reducible rfl))
          try simp only [Act.put, Tl.p2, Tl.p3, Tl.p4]
          refine Tl.tk 8 (⟨some 58, .load 45 (.tmp 57), 45, "machine.go:120", #[⟨7, .data⟩], none⟩ : Oper) ?v17 rfl ?hy17 (by assumption) ?_
          case hy17 => (intro w hSw; (try dsimp only at hSw); go_simp; all_goals (with_reducible rfl))
          try simp only [Act.put, Tl.p2, Tl.p3, Tl.p4]
          refine Tl.tf 9 (⟨some 59, .move (.tmp 1), 3, "machine.go:120", #[], none⟩ : Oper) ?v18 rfl ?hy18 (by assumption) ?_
          case hy18 => (intro w; go_simp; all_goals (with_reducible rfl))
          try simp only [Act.put, Tl.p2, Tl.p3, Tl.p4]
          refine Tl.tf 10 (⟨some 60, .move (.tmp 2), 40, "machine.go:120", #[], none⟩ : Oper) ?v19 rfl ?hy19 (by assumption) ?_
          case hy19 => (intro w; go_simp; all_goals (with_reducible rfl))
          try simp only [Act.put, Tl.p2, Tl.p3, Tl.p4]
          refine Tl.tf 11 (⟨some 61, .move (.tmp 0), 131, "machine.go:120", #[], none⟩ : Oper) ?v20 rfl ?hy20 (by assumption) ?_
          case hy20 => (intro w; go_simp; all_goals (with_reducible rfl))
          try simp only [Act.put, Tl.p2, Tl.p3, Tl.p4]
          refine Tl.tf 12 (⟨some 62, .nilCheck (.tmp 61), 0, "machine.go:120", #[⟨11, .data⟩], none⟩ : Oper) ?v21 rfl ?hy21 (by assumption) ?_
          case hy21 => (intro w; go_simp; all_goals (with_reducible rfl))
          try simp only [Act.put, Tl.p2, Tl.p3, Tl.p4]
          refine Tl.tf 13 (⟨some 63, .fieldAddr 57 (.tmp 62) 7, 0, "machine.go:120", #[⟨12, .data⟩], none⟩ : Oper) ?v22 rfl ?hy22 (by assumption) ?_
          case hy22 => (intro w; go_simp; all_goals (with_reducible rfl))
          try simp only [Act.put, Tl.p2, Tl.p3, Tl.p4]
          refine Tl.tk 14 (⟨some 64, .load 30 (.tmp 63), 30, "machine.go:120", #[⟨13, .data⟩], none⟩ : Oper) ?v23 rfl ?hy23 (by assumption) ?_
          case hy23 => (intro w hSw; (try dsimp only at hSw); go_simp; all_goals (with_reducible rfl))
          try simp only [Act.put, Tl.p2, Tl.p3, Tl.p4]
          refine Tl.step (i := 15) (o := (⟨some 65, .call { callee := .value (.func 128), args := #[.tmp 54, .tmp 58, .tmp 59, .tmp 60, .tmp 64], argTypes := #[51, 45, 3, 40, 30] }, 217, "machine.go:120", #[⟨4, .data⟩, ⟨8, .data⟩, ⟨9, .data⟩, ⟨10, .data⟩, ⟨14, .data⟩], none⟩ : Oper)) (by kernel_rfl) rfl (fun K hK => ?_)
          go_simp
          go_at_call 128
          refine (HP.out _ M0.out.drew).mono ?_
          rintro e w3 ⟨x0, x1, x2, x3, x4, x5, x6, x7, vo, LO, rfl, hok, hlo, h3⟩
          have HOK := Lib.hid hok
          have M3 := Lib.hid h3
          clear hok h3
          dsimp only
          refine hK.out _ _ (HB.out _ (M3.out.blk 2 rfl)) (fun hHeld => ?_)
          clear hK K
          try simp only [Act.put, Tl.p2, Tl.p3, Tl.p4]
          refine Tl.tf 16 (⟨some 49, .move (.tmp 65), 217, "machine.go:120", #[⟨15, .data⟩], none⟩ : Oper) ?v24 rfl ?hy24 (by assumption) ?_
          case hy24 => (intro w; go_simp; all_goals (with_reducible rfl))
          try simp only [Act.put, Tl.p2, Tl.p3, Tl.p4]
          refine Tl.tf 17 (⟨some 66, .extract (.tmp 49) 0, 51, "machine.go:120", #[⟨16, .data⟩], none⟩ : Oper) ?v25 rfl ?hy25 (by assumption) ?_
          case hy25 => (intro w; go_simp; all_goals (with_reducible rfl))
          try simp only [Act.put, Tl.p2, Tl.p3, Tl.p4]
          refine Tl.tf 18 (⟨some 67, .extract (.tmp 49) 1, 62, "machine.go:120", #[⟨16, .data⟩, ⟨21, .gcOnly .lateStores⟩], none⟩ : Oper) ?v26 rfl ?hy26 (by assumption) ?_
          case hy26 => (intro w; go_simp; all_goals (with_reducible rfl))
          try simp only [Act.put, Tl.p2, Tl.p3, Tl.p4]
          refine Tl.tf 19 (⟨some 68, .nilCheck (.tmp 50), 0, "machine.go:120", #[⟨0, .data⟩, ⟨0, .phase⟩, ⟨1, .phase⟩, ⟨2, .phase⟩, ⟨3, .phase⟩, ⟨4, .phase⟩, ⟨5, .phase⟩, ⟨6, .phase⟩, ⟨7, .phase⟩, ⟨8, .phase⟩, ⟨9, .phase⟩, ⟨10, .phase⟩, ⟨11, .phase⟩, ⟨12, .phase⟩, ⟨13, .phase⟩, ⟨14, .phase⟩, ⟨15, .phase⟩, ⟨16, .phase⟩, ⟨17, .phase⟩, ⟨18, .textOnly .lateStores⟩], none⟩ : Oper) ?v27 rfl ?hy27 (by assumption) ?_
          case hy27 => (intro w; go_simp; all_goals (with_reducible rfl))
          try simp only [Act.put, Tl.p2, Tl.p3, Tl.p4]
          refine Tl.tf 20 (⟨some 69, .fieldAddr 57 (.tmp 68) 4, 0, "machine.go:120", #[⟨19, .data⟩, ⟨0, .phase⟩, ⟨1, .phase⟩, ⟨2, .phase⟩, ⟨3, .phase⟩, ⟨4, .phase⟩, ⟨5, .phase⟩, ⟨6, .phase⟩, ⟨7, .phase⟩, ⟨8, .phase⟩, ⟨9, .phase⟩, ⟨10, .phase⟩, ⟨11, .phase⟩, ⟨12, .phase⟩, ⟨13, .phase⟩, ⟨14, .phase⟩, ⟨15, .phase⟩, ⟨16, .phase⟩, ⟨17, .phase⟩, ⟨18, .textOnly .lateStores⟩], none⟩ : Oper) ?v28 rfl ?hy28 (by assumption) ?_
          case hy28 => (intro w; go_simp; all_goals (with_reducible rfl))
          try simp only [Act.put, Tl.p2, Tl.p3, Tl.p4]
          refine Tl.stepN (i := 21) (o := (⟨none, .store 51 (.tmp 69) (.tmp 66), 0, "machine.go:120", #[⟨20, .data⟩, ⟨17, .data⟩, ⟨15, .chain⟩, ⟨0, .phase⟩, ⟨1, .phase⟩, ⟨2, .phase⟩, ⟨3, .phase⟩, ⟨4, .phase⟩, ⟨5, .phase⟩, ⟨6, .phase⟩, ⟨7, .phase⟩, ⟨8, .phase⟩, ⟨9, .phase⟩, ⟨10, .phase⟩, ⟨11, .phase⟩, ⟨12, .phase⟩, ⟨13, .phase⟩, ⟨14, .phase⟩, ⟨15, .phase⟩, ⟨16, .phase⟩, ⟨17, .phase⟩, ⟨18, .textOnly .lateStores⟩], none⟩ : Oper)) (by kernel_rfl) (by kernel_rfl) rfl (fun K hK => ?_)
          refine Mem.step_storePart 51 rfl rfl 30 (news := dskA x0 x1 x2 x3 x4 x5 x6 x7) rfl rfl 2 M3.out rfl sDsk (by rw [HSZ.out]; exact Nat.le_trans (by decide : 30 + 8 ≤ 49) (Nat.le_add_right _ _)) (by intro v hv; simp at hv; (repeat' rcases hv with rfl | hv) <;> (try subst hv) <;> rfl) ?_
          intro w4 MM'
          rw [patch_dsk HCL.out] at MM'
          (try simp only [List.set_cons_zero, List.set_cons_succ] at MM')
          have M4 := Lib.hid MM'
          clear MM'
          refine hK.out _ _ ?_
          clear hK K
          try simp only [Act.put, Tl.p2, Tl.p3, Tl.p4]
          refine Tl.td 22 (⟨some 7, .assign (.tmp 67), 62, "machine.go:120", #[⟨18, .data⟩, ⟨21, .chain⟩, ⟨0, .phase⟩, ⟨1, .phase⟩, ⟨2, .phase⟩, ⟨3, .phase⟩, ⟨4, .phase⟩, ⟨5, .phase⟩, ⟨6, .phase⟩, ⟨7, .phase⟩, ⟨8, .phase⟩, ⟨9, .phase⟩, ⟨10, .phase⟩, ⟨11, .phase⟩, ⟨12, .phase⟩, ⟨13, .phase⟩, ⟨14, .phase⟩, ⟨15, .phase⟩, ⟨16, .phase⟩, ⟨17, .phase⟩, ⟨18, .phase⟩, ⟨19, .phase⟩, ⟨20, .phase⟩, ⟨21, .phase⟩], none⟩ : Oper) ?v29 rfl ?hy29 ?_
          case hy29 => (intro w; go_simp; all_goals (with_reducible rfl))
          try simp only [Act.put, Tl.p2, Tl.p3, Tl.p4]
          refine Tl.done (by kernel_rfl) ?_ _
          go_wp2
          go_ret
          exact ⟨{ d with dbs := x0, dbl := x1, dfr := x2, dst := x3, dcm := x4, dob := x5, dof := x6, dod := x7 }, _, LO, L, rfl, { HD.out with dbs := HOK.out.1, dbl := HOK.out.2.1, dfr := HOK.out.2.2.1, dst := HOK.out.2.2.2.1, dcm := HOK.out.2.2.2.2.1, dob := HOK.out.2.2.2.2.2.1, dof := HOK.out.2.2.2.2.2.2.1, dod := HOK.out.2.2.2.2.2.2.2 }, rfl, hlo, HL.out, M4.out⟩
        · by_cases h9 : p ≤ 9
          · have hp := HNO.out p (by omega)
            have HP := Lib.hid hp
            clear hp h0 h3 HNO HGI HAR HDO
            go_enter Tryz.func96, Tryz.ntmps96
            go_upto_region 11 with fail
            refine Tl.start 21 (fun w' => w'.heap[b]? = some (.cells (mcA C (memV g cap) d X) T (0, 0)) ∧ w'.cell? ⟨b, 25, none⟩ = some (memV g cap) ∧ w'.cell? ⟨b, 46, none⟩ = some (.int .u64 d.cnt)) (by kernel_rfl) (HB.out _ (M0.out.drew.blk 1 rfl)) (fun hHeld => ?_)
            refine Tl.tf 0 (⟨some 74, .move (.tmp 0), 131, "machine.go:122", #[], none⟩ : Oper) ?v30 rfl ?hy30 (by assumption) ?_
            case hy30 => (intro w; go_simp; all_goals (with_reducible rfl))
            try simp only [Act.put, Tl.p2, Tl.p3, Tl.p4]
            refine Tl.tf 1 (⟨some 75, .move (.tmp 0), 131, "machine.go:122", #[], none⟩ : Oper) ?v31 rfl ?hy31 (by assumption) ?_
            case hy31 => (intro w; go_simp; all_goals (with_reducible rfl))
            try simp only [Act.put, Tl.p2, Tl.p3, Tl.p4]
            refine Tl.tf 2 (⟨some 76, .nilCheck (.tmp 75), 0, "machine.go:122", #[⟨1, .data⟩], none⟩ : Oper) ?v32 rfl ?hy32 (by assumption) ?_
            case hy32 => (intro w; go_simp; all_goals (with_reducible rfl))
            try simp only [Act.put, Tl.p2, Tl.p3, Tl.p4]
            refine Tl.tf 3 (⟨some 77, .fieldAddr 57 (.tmp 76) 5, 0, "machine.go:122", #[⟨2, .data⟩], none⟩ : Oper) ?v33 rfl ?hy33 (by assumption) ?_
            case hy33 => (intro w; go_simp; all_goals (with_reducible rfl))
            try simp only [Act.put, Tl.p2, Tl.p3, Tl.p4]
            refine Tl.ty 4 (⟨some 78, .load 53 (.tmp 77), 53, "machine.go:122", #[⟨3, .data⟩], none⟩ : Oper) (.agg (nicV d)) rfl (Big.yields_part 53 rfl rfl 38 6 rfl (fun w' h => h.1) uNic sNic (by rw [HSZ.out]; exact Nat.le_trans (by decide : 38 + 6 ≤ 49) (Nat.le_add_right _ _)) (take_nic HCL.out)) (by assumption) ?_
            try simp only [Act.put, Tl.p2, Tl.p3, Tl.p4]
            refine Tl.tf 5 (⟨some 79, .move (.tmp 0), 131, "machine.go:122", #[], none⟩ : Oper) ?v35 rfl ?hy35 (by assumption) ?_
            case hy35 => (intro w; go_simp; all_goals (with_reducible rfl))
            try simp only [Act.put, Tl.p2, Tl.p3, Tl.p4]
            refine Tl.tf 6 (⟨some 80, .nilCheck (.tmp 79), 0, "machine.go:122", #[⟨5, .data⟩], none⟩ : Oper) ?v36 rfl ?hy36 (by assumption) ?_
            case hy36 => (intro w; go_simp; all_goals (with_reducible rfl))
            try simp only [Act.put, Tl.p2, Tl.p3, Tl.p4]
            refine Tl.tf 7 (⟨some 81, .fieldAddr 57 (.tmp 80) 1, 0, "machine.go:122", #[⟨6, .data⟩], none⟩ : Oper) ?v37 rfl ?hy37 (by assumption) ?_
            case hy37 => (intro w; go_simp; all_goals (with_reducible rfl))
            try simp only [Act.put, Tl.p2, Tl.p3, Tl.p4]
            refine Tl.tk 8 (⟨some 82, .load 45 (.tmp 81), 45, "machine.go:122", #[⟨7, .data⟩], none⟩ : Oper) ?v38 rfl ?hy38 (by assumption) ?_
            case hy38 => (intro w hSw; (try dsimp only at hSw); go_simp; all_goals (with_reducible rfl))
            try simp only [Act.put, Tl.p2, Tl.p3, Tl.p4]
            refine Tl.tf 9 (⟨some 83, .move (.tmp 1), 3, "machine.go:122", #[], none⟩ : Oper) ?v39 rfl ?hy39 (by assumption) ?_
            case hy39 => (intro w; go_simp; all_goals (with_reducible rfl))
            try simp only [Act.put, Tl.p2, Tl.p3, Tl.p4]
            refine Tl.tf 10 (⟨some 84, .move (.tmp 2), 40, "machine.go:122", #[], none⟩ : Oper) ?v40 rfl ?hy40 (by assumption) ?_
            case hy40 => (intro w; go_simp; all_goals (with_reducible rfl))
            try simp only [Act.put, Tl.p2, Tl.p3, Tl.p4]
            refine Tl.tf 11 (⟨some 85, .move (.tmp 0), 131, "machine.go:122", #[], none⟩ : Oper) ?v41 rfl ?hy41 (by assumption) ?_
            case hy41 => (intro w; go_simp; all_goals (with_reducible rfl))
            try simp only [Act.put, Tl.p2, Tl.p3, Tl.p4]
            refine Tl.tf 12 (⟨some 86, .nilCheck (.tmp 85), 0, "machine.go:122", #[⟨11, .data⟩], none⟩ : Oper) ?v42 rfl ?hy42 (by assumption) ?_
            case hy42 => (intro w; go_simp; all_goals (with_reducible rfl))
            try simp only [Act.put, Tl.p2, Tl.p3, Tl.p4]
            refine Tl.tf 13 (⟨some 87, .fieldAddr 57 (.tmp 86) 7, 0, "machine.go:122", #[⟨12, .data⟩], none⟩ : Oper) ?v43 rfl ?hy43 (by assumption) ?_
            case hy43 => (intro w; go_simp; all_goals (with_reducible rfl))
            try simp only [Act.put, Tl.p2, Tl.p3, Tl.p4]
            refine Tl.tk 14 (⟨some 88, .load 30 (.tmp 87), 30, "machine.go:122", #[⟨13, .data⟩], none⟩ : Oper) ?v44 rfl ?hy44 (by assumption) ?_
            case hy44 => (intro w hSw; (try dsimp only at hSw); go_simp; all_goals (with_reducible rfl))
            try simp only [Act.put, Tl.p2, Tl.p3, Tl.p4]
            refine Tl.step (i := 15) (o := (⟨some 89, .call { callee := .value (.func 129), args := #[.tmp 78, .tmp 82, .tmp 83, .tmp 84, .tmp 88], argTypes := #[53, 45, 3, 40, 30] }, 219, "machine.go:122", #[⟨4, .data⟩, ⟨8, .data⟩, ⟨9, .data⟩, ⟨10, .data⟩, ⟨14, .data⟩], none⟩ : Oper)) (by kernel_rfl) rfl (fun K hK => ?_)
            go_simp
            go_at_call 129
            refine (HP.out _ M0.out.drew).mono ?_
            rintro e w3 ⟨x0, x1, x2, x3, x4, x5, vo, LO, rfl, hok, hlo, h3⟩
            have HOK := Lib.hid hok
            have M3 := Lib.hid h3
            clear hok h3
            dsimp only
            refine hK.out _ _ (HB.out _ (M3.out.blk 2 rfl)) (fun hHeld => ?_)
            clear hK K
            try simp only [Act.put, Tl.p2, Tl.p3, Tl.p4]
            refine Tl.tf 16 (⟨some 73, .move (.tmp 89), 219, "machine.go:122", #[⟨15, .data⟩], none⟩ : Oper) ?v45 rfl ?hy45 (by assumption) ?_
            case hy45 => (intro w; go_simp; all_goals (with_reducible rfl))
            try simp only [Act.put, Tl.p2, Tl.p3, Tl.p4]
            refine Tl.tf 17 (⟨some 90, .extract (.tmp 73) 0, 53, "machine.go:122", #[⟨16, .data⟩], none⟩ : Oper) ?v46 rfl ?hy46 (by assumption) ?_
            case hy46 => (intro w; go_simp; all_goals (with_reducible rfl))
            try simp only [Act.put, Tl.p2, Tl.p3, Tl.p4]
            refine Tl.tf 18 (⟨some 91, .extract (.tmp 73) 1, 62, "machine.go:122", #[⟨16, .data⟩, ⟨21, .gcOnly .lateStores⟩], none⟩ : Oper) ?v47 rfl ?hy47 (by assumption) ?_
            case hy47 => (intro w; go_simp; all_goals (with_reducible rfl))
            try simp only [Act.put, Tl.p2, Tl.p3, Tl.p4]
            refine Tl.tf 19 (⟨some 92, .nilCheck (.tmp 74), 0, "machine.go:122", #[⟨0, .data⟩, ⟨0, .phase⟩, ⟨1, .phase⟩, ⟨2, .phase⟩, ⟨3, .phase⟩, ⟨4, .phase⟩, ⟨5, .phase⟩, ⟨6, .phase⟩, ⟨7, .phase⟩, ⟨8, .phase⟩, ⟨9, .phase⟩, ⟨10, .phase⟩, ⟨11, .phase⟩, ⟨12, .phase⟩, ⟨13, .phase⟩, ⟨14, .phase⟩, ⟨15, .phase⟩, ⟨16, .phase⟩, ⟨17, .phase⟩, ⟨18, .textOnly .lateStores⟩], none⟩ : Oper) ?v48 rfl ?hy48 (by assumption) ?_
            case hy48 => (intro w; go_simp; all_goals (with_reducible rfl))
            try simp only [Act.put, Tl.p2, Tl.p3, Tl.p4]
            refine Tl.tf 20 (⟨some 93, .fieldAddr 57 (.tmp 92) 5, 0, "machine.go:122", #[⟨19, .data⟩, ⟨0, .phase⟩, ⟨1, .phase⟩, ⟨2, .phase⟩, ⟨3, .phase⟩, ⟨4, .phase⟩, ⟨5, .phase⟩, ⟨6, .phase⟩, ⟨7, .phase⟩, ⟨8, .phase⟩, ⟨9, .phase⟩, ⟨10, .phase⟩, ⟨11, .phase⟩, ⟨12, .phase⟩, ⟨13, .phase⟩, ⟨14, .phase⟩, ⟨15, .phase⟩, ⟨16, .phase⟩, ⟨17, .phase⟩, ⟨18, .textOnly .lateStores⟩], none⟩ : Oper) ?v49 rfl ?hy49 (by assumption) ?_
            case hy49 => (intro w; go_simp; all_goals (with_reducible rfl))
            try simp only [Act.put, Tl.p2, Tl.p3, Tl.p4]
            refine Tl.stepN (i := 21) (o := (⟨none, .store 53 (.tmp 93) (.tmp 90), 0, "machine.go:122", #[⟨20, .data⟩, ⟨17, .data⟩, ⟨15, .chain⟩, ⟨0, .phase⟩, ⟨1, .phase⟩, ⟨2, .phase⟩, ⟨3, .phase⟩, ⟨4, .phase⟩, ⟨5, .phase⟩, ⟨6, .phase⟩, ⟨7, .phase⟩, ⟨8, .phase⟩, ⟨9, .phase⟩, ⟨10, .phase⟩, ⟨11, .phase⟩, ⟨12, .phase⟩, ⟨13, .phase⟩, ⟨14, .phase⟩, ⟨15, .phase⟩, ⟨16, .phase⟩, ⟨17, .phase⟩, ⟨18, .textOnly .lateStores⟩], none⟩ : Oper)) (by kernel_rfl) (by kernel_rfl) rfl (fun K hK => ?_)
            refine Mem.step_storePart 53 rfl rfl 38 (news := nicA x0 x1 x2 x3 x4 x5) rfl rfl 2 M3.out rfl sNic (by rw [HSZ.out]; exact Nat.le_trans (by decide : 38 + 6 ≤ 49) (Nat.le_add_right _ _)) (by intro v hv; simp at hv; (repeat' rcases hv with rfl | hv) <;> (try subst hv) <;> rfl) ?_
            intro w4 MM'
            rw [patch_nic HCL.out] at MM'
            (try simp only [List.set_cons_zero, List.set_cons_succ] at MM')
            have M4 := Lib.hid MM'
            clear MM'
            refine hK.out _ _ ?_
            clear hK K
            try simp only [Act.put, Tl.p2, Tl.p3, Tl.p4]
            refine Tl.td 22 (⟨some 7, .assign (.tmp 91), 62, "machine.go:122", #[⟨18, .data⟩, ⟨21, .chain⟩, ⟨0, .phase⟩, ⟨1, .phase⟩, ⟨2, .phase⟩, ⟨3, .phase⟩, ⟨4, .phase⟩, ⟨5, .phase⟩, ⟨6, .phase⟩, ⟨7, .phase⟩, ⟨8, .phase⟩, ⟨9, .phase⟩, ⟨10, .phase⟩, ⟨11, .phase⟩, ⟨12, .phase⟩, ⟨13, .phase⟩, ⟨14, .phase⟩, ⟨15, .phase⟩, ⟨16, .phase⟩, ⟨17, .phase⟩, ⟨18, .phase⟩, ⟨19, .phase⟩, ⟨20, .phase⟩, ⟨21, .phase⟩], none⟩ : Oper) ?v50 rfl ?hy50 ?_
            case hy50 => (intro w; go_simp; all_goals (with_reducible rfl))
            try simp only [Act.put, Tl.p2, Tl.p3, Tl.p4]
            refine Tl.done (by kernel_rfl) ?_ _
            go_wp2
            go_ret
            exact ⟨{ d with nfr := x0, nln := x1, npo := x2, nbu := x3, nrc := x4, ngo := x5 }, _, LO, L, rfl, { HD.out with nfr := HOK.out.1, nln := HOK.out.2.1, nbu := HOK.out.2.2.1, ngo := HOK.out.2.2.2 }, rfl, hlo, HL.out, M4.out⟩
          · clear h0 h3 HNO HAR HDO
            go_enter Tryz.func96, Tryz.ntmps96
            go_upto_region 2 with fail
            refine Tl.start 14 (fun w' => w'.heap[b]? = some (.cells (mcA C (memV g cap) d X) T (0, 0)) ∧ w'.cell? ⟨b, 25, none⟩ = some (memV g cap) ∧ w'.cell? ⟨b, 46, none⟩ = some (.int .u64 d.cnt)) (by kernel_rfl) (HB.out _ (M0.out.drew.blk 1 rfl)) (fun hHeld => ?_)
            refine Tl.tf 0 (⟨some 8, .move (.tmp 0), 131, "machine.go:124", #[], none⟩ : Oper) ?v51 rfl ?hy51 (by assumption) ?_
            case hy51 => (intro w; go_simp; all_goals (with_reducible rfl))
            try simp only [Act.put, Tl.p2, Tl.p3, Tl.p4]
            refine Tl.tf 1 (⟨some 9, .move (.tmp 0), 131, "machine.go:124", #[], none⟩ : Oper) ?v52 rfl ?hy52 (by assumption) ?_
            case hy52 => (intro w; go_simp; all_goals (with_reducible rfl))
            try simp only [Act.put, Tl.p2, Tl.p3, Tl.p4]
            refine Tl.tf 2 (⟨some 10, .nilCheck (.tmp 9), 0, "machine.go:124", #[⟨1, .data⟩], none⟩ : Oper) ?v53 rfl ?hy53 (by assumption) ?_
            case hy53 => (intro w; go_simp; all_goals (with_reducible rfl))
            try simp only [Act.put, Tl.p2, Tl.p3, Tl.p4]
            refine Tl.tf 3 (⟨some 11, .fieldAddr 57 (.tmp 10) 6, 0, "machine.go:124", #[⟨2, .data⟩], none⟩ : Oper) ?v54 rfl ?hy54 (by assumption) ?_
            case hy54 => (intro w; go_simp; all_goals (with_reducible rfl))
            try simp only [Act.put, Tl.p2, Tl.p3, Tl.p4]
            refine Tl.ty 4 (⟨some 12, .load 55 (.tmp 11), 55, "machine.go:124", #[⟨3, .data⟩], none⟩ : Oper) (.agg (balV d)) rfl (Big.yields_part 55 rfl rfl 44 2 rfl (fun w' h => h.1) uBal sBal (by rw [HSZ.out]; exact Nat.le_trans (by decide : 44 + 2 ≤ 49) (Nat.le_add_right _ _)) (take_bal HCL.out)) (by assumption) ?_
            try simp only [Act.put, Tl.p2, Tl.p3, Tl.p4]
            refine Tl.tf 5 (⟨some 13, .move (.tmp 0), 131, "machine.go:124", #[], none⟩ : Oper) ?v56 rfl ?hy56 (by assumption) ?_
            case hy56 => (intro w; go_simp; all_goals (with_reducible rfl))
            try simp only [Act.put, Tl.p2, Tl.p3, Tl.p4]
            refine Tl.tf 6 (⟨some 14, .nilCheck (.tmp 13), 0, "machine.go:124", #[⟨5, .data⟩], none⟩ : Oper) ?v57 rfl ?hy57 (by assumption) ?_
            case hy57 => (intro w; go_simp; all_goals (with_reducible rfl))
            try simp only [Act.put, Tl.p2, Tl.p3, Tl.p4]
            refine Tl.tf 7 (⟨some 15, .fieldAddr 57 (.tmp 14) 1, 0, "machine.go:124", #[⟨6, .data⟩], none⟩ : Oper) ?v58 rfl ?hy58 (by assumption) ?_
            case hy58 => (intro w; go_simp; all_goals (with_reducible rfl))
            try simp only [Act.put, Tl.p2, Tl.p3, Tl.p4]
            refine Tl.tk 8 (⟨some 16, .load 45 (.tmp 15), 45, "machine.go:124", #[⟨7, .data⟩], none⟩ : Oper) ?v59 rfl ?hy59 (by assumption) ?_
            case hy59 => (intro w hSw; (try dsimp only at hSw); go_simp; all_goals (with_reducible rfl))
            try simp only [Act.put, Tl.p2, Tl.p3, Tl.p4]
            refine Tl.tf 9 (⟨some 17, .move (.tmp 1), 3, "machine.go:124", #[], none⟩ : Oper) ?v60 rfl ?hy60 (by assumption) ?_
            case hy60 => (intro w; go_simp; all_goals (with_reducible rfl))
            try simp only [Act.put, Tl.p2, Tl.p3, Tl.p4]
            refine Tl.tf 10 (⟨some 18, .move (.tmp 2), 40, "machine.go:124", #[], none⟩ : Oper) ?v61 rfl ?hy61 (by assumption) ?_
            case hy61 => (intro w; go_simp; all_goals (with_reducible rfl))
            try simp only [Act.put, Tl.p2, Tl.p3, Tl.p4]
            refine Tl.step (i := 11) (o := (⟨some 19, .call { callee := .value (.func 130), args := #[.tmp 12, .tmp 16, .tmp 17, .tmp 18], argTypes := #[55, 45, 3, 40] }, 55, "machine.go:124", #[⟨4, .data⟩, ⟨8, .data⟩, ⟨9, .data⟩, ⟨10, .data⟩], none⟩ : Oper)) (by kernel_rfl) rfl (fun K hK => ?_)
            go_simp
            go_at_call 130
            refine (HGI.out _ M0.out.drew).mono ?_
            rintro e w3 ⟨gx, L2, rfl, hok, hL2, h3⟩
            have HOK := Lib.hid hok
            have M3 := Lib.hid h3
            clear hok h3
            dsimp only
            refine hK.out _ _ (HB.out _ (M3.out.blk 1 rfl)) (fun hHeld => ?_)
            clear hK K
            try simp only [Act.put, Tl.p2, Tl.p3, Tl.p4]
            refine Tl.tf 12 (⟨some 20, .nilCheck (.tmp 8), 0, "machine.go:124", #[⟨0, .data⟩, ⟨0, .phase⟩, ⟨1, .phase⟩, ⟨2, .phase⟩, ⟨3, .phase⟩, ⟨4, .phase⟩, ⟨5, .phase⟩, ⟨6, .phase⟩, ⟨7, .phase⟩, ⟨8, .phase⟩, ⟨9, .phase⟩, ⟨10, .phase⟩, ⟨11, .phase⟩], none⟩ : Oper) ?v62 rfl ?hy62 (by assumption) ?_
            case hy62 => (intro w; go_simp; all_goals (with_reducible rfl))
            try simp only [Act.put, Tl.p2, Tl.p3, Tl.p4]
            refine Tl.tf 13 (⟨some 21, .fieldAddr 57 (.tmp 20) 6, 0, "machine.go:124", #[⟨12, .data⟩, ⟨0, .phase⟩, ⟨1, .phase⟩, ⟨2, .phase⟩, ⟨3, .phase⟩, ⟨4, .phase⟩, ⟨5, .phase⟩, ⟨6, .phase⟩, ⟨7, .phase⟩, ⟨8, .phase⟩, ⟨9, .phase⟩, ⟨10, .phase⟩, ⟨11, .phase⟩], none⟩ : Oper) ?v63 rfl ?hy63 (by assumption) ?_
            case hy63 => (intro w; go_simp; all_goals (with_reducible rfl))
            try simp only [Act.put, Tl.p2, Tl.p3, Tl.p4]
            refine Tl.stepN (i := 14) (o := (⟨none, .store 55 (.tmp 21) (.tmp 19), 0, "machine.go:124", #[⟨13, .data⟩, ⟨11, .data⟩, ⟨11, .chain⟩, ⟨0, .phase⟩, ⟨1, .phase⟩, ⟨2, .phase⟩, ⟨3, .phase⟩, ⟨4, .phase⟩, ⟨5, .phase⟩, ⟨6, .phase⟩, ⟨7, .phase⟩, ⟨8, .phase⟩, ⟨9, .phase⟩, ⟨10, .phase⟩, ⟨11, .phase⟩], none⟩ : Oper)) (by kernel_rfl) (by kernel_rfl) rfl (fun K hK => ?_)
            refine Mem.step_storePart 55 rfl rfl 44 (news := balC d.bta gx) rfl rfl 1 M3.out rfl sBal (by rw [HSZ.out]; exact Nat.le_trans (by decide : 44 + 2 ≤ 49) (Nat.le_add_right _ _)) (by intro v hv; simp at hv; (repeat' rcases hv with rfl | hv) <;> (try subst hv) <;> rfl) ?_
            intro w4 MM'
            rw [patch_bal HCL.out] at MM'
            (try simp only [List.set_cons_zero, List.set_cons_succ] at MM')
            have M4 := Lib.hid MM'
            clear MM'
            refine hK.out _ _ ?_
            clear hK K
            try simp only [Act.put, Tl.p2, Tl.p3, Tl.p4]
            refine Tl.done (by kernel_rfl) ?_ _
            go_wp2
            go_ret
            exact ⟨{ d with bta := d.bta, bgi := gx }, _, [], L2, rfl, { HD.out with bgi := HOK.out }, rfl, by decide, hL2, M4.out.nilRow.toFront⟩
end Ma
end Go.Proofs.YtdacgdokbfcgdaaGreat

namespace Go.Proofs.YtdacgdokbfcgdaaGreat
open Go.RowKit Go.BigFrame Go.Sort Go.Lib
namespace Ma
theorem uEvt : ∃ fs, Tryz.prog.underlying 66 = some (.struct fs) := ⟨_, Tryz.underlying66⟩
theorem sEvt : (Tryz.prog.info? 66).map (·.size) = some 3 := by kernel_rfl
/-- An event. -/
structure Evt where
  k : Int
  n : Int
  s : ByteArray
abbrev evtA (e : Evt) : Array Value := #[.int .i64 e.k, .int .u32 e.n, .string e.s]
structure AppD (d : Dv) (x : Evt) (ok : Bool) (d' : Dv) : Prop where
  dok : DvOK d'
  cnt : d'.cnt = d.cnt
  arm : d'.ta = true → d.ta = true
  fire : ok = true → x.k = 2 → d.ta = true ∧ d'.ta = false
def AppTo (W : World) (b : Nat) (T : TypeId) (C : List Int) (g cap : Nat) (d : Dv) (X : List Value) (F : List Ck) (x : Evt) (e : Ending) (w' : World) : Prop :=
  ∃ (d' : Dv) (ok : Bool) (L' : List Int), e = .returned (.bool ok) ∧ AppD d x ok d' ∧ MemOK L' ∧ Mem W w' (memR W.heap.size g cap L' :: macB b T C (memV g cap) d' X :: F)
set_option maxHeartbeats 8000000 in
theorem apply_any (W : World) (b : Nat) (T : TypeId) (C : List Int) (g cap : Nat) (d : Dv) (X : List Value) (F : List Ck) (L : List Int) (x : Evt) (hn : Wd x.n) (hC : C.length = 25) (hd : DvOK d) (hL : MemOK L) (w : World) (hM : Mem W w (memR W.heap.size g cap L :: macB b T C (memV g cap) d X :: F)) :
    Calls Tryz.prog 62 #[.pointer (some ⟨b, 0, none⟩), .agg (evtA x)] w (AppTo W b T C g cap d X F x) := by
  obtain ⟨k, n, s⟩ := x
  dsimp only at hn
  have HCL := Lib.hid hC
  have HSZ : Is (mcA C (memV g cap) d X).size (49 + X.length) := ⟨mc_size hC⟩
  have HD := Lib.hid hd
  have HL := Lib.hid hL
  have c25 := mc_mem (mv := memV g cap) (d := d) (X := X) hC
  have c48 := mc_dv (mv := memV g cap) (X := X) hC (j := 22) (by decide) (v := .bool d.hal) rfl
  have HB := Lib.hid fun (w' : World) (h : w'.heap[b]? = some (.cells (mcA C (memV g cap) d X) T (0, 0))) (h2 : w'.heap[w.heap.size]? = some (.cells (evtA ⟨k, n, s⟩) 66 (0, 0))) =>
    (⟨h, Bx.cell h 25 c25, h2, Bx.cell h2 1 rfl, Bx.cell h2 2 rfl⟩ : _ ∧ _ ∧ _ ∧ _ ∧ _)
  have M0 := Lib.hid (hM.allocF (b := w.heap.size) rfl (evtA ⟨k, n, s⟩) 66)
  have MX := Lib.hid hM
  have d48 := hM.cell 1 rfl 48 c48
  have hlt := hM.lt 1 rfl
  have hne : ¬ b = w.heap.size := by omega
  obtain ⟨dof, hdf, hdf2⟩ := wd_nat hd.dof
  obtain ⟨nbu, hnf, hnf2⟩ := wd_nat hd.nbu
  have HFI := Lib.hid fun (n : Int) (w' : World) (h : Mem W w' (memR W.heap.size g cap L :: .box w.heap.size (evtA ⟨4, n, s⟩) 66 :: macB b T C (memV g cap) d X :: F)) => (show Calls Tryz.prog 87 #[.agg (dskV d), memV g cap, .agg #[.int .i64 4, .int .u32 n, .string s]] w' _ by
    have hok : DskOK d.dbs d.dbl d.dfr d.dst d.dcm d.dob (dof : Int) d.dod := ⟨hd.dbs, hd.dbl, hd.dfr, hd.dst, hd.dcm, hd.dob, ⟨by omega, by omega⟩, hd.dod⟩
    unfold dskV
    rw [hdf]
    exact finish_any W g cap _ _ _ _ _ _ _ _ n s hok L _ w' h hL)
  have HAC := Lib.hid fun (w' : World) (h : Mem W w' (memR W.heap.size g cap L :: .box w.heap.size (evtA ⟨k, n, s⟩) 66 :: macB b T C (memV g cap) d X :: F)) => (show Calls Tryz.prog 88 #[.agg (nicV d), memV g cap, .string s] w' _ by
    have hok : NicOK d.nfr d.nln (nbu : Int) d.ngo := ⟨hd.nfr, hd.nln, ⟨by omega, by omega⟩, hd.ngo⟩
    unfold nicV
    rw [hnf]
    exact accept_any W g cap _ _ _ _ _ _ s hok L _ w' h hL)
  have HTY := Lib.hid fun (c : UInt8) w => type_any d.keys c hd.keys w
  have HFR := Lib.hid fun w => fire_any d.ta d.tf d.td w
  unfold FinTo at HFI
  unfold AccTo at HAC
  unfold TypTo at HTY
  have HN := Lib.hid hn
  have no : ∀ w', Mem W w' (memR W.heap.size g cap L :: macB b T C (memV g cap) d X :: F) → AppTo W b T C g cap d X F ⟨k, n, s⟩ (.returned (.bool false)) w' := fun w' h => ⟨d, false, L, rfl, ⟨hd, rfl, id, fun h => by cases h⟩, hL, h⟩
  have NO := Lib.hid no
  clear hM hd hC hL no hdf hnf hdf2 hnf2 hn
  cases hh : d.hal
  · rw [hh] at c48 d48
    rcases (by omega : k = 2 ∨ k = 3 ∨ k = 4 ∨ k = 5 ∨ k = 6 ∨ (k ≠ 2 ∧ k ≠ 3 ∧ k ≠ 4 ∧ k ≠ 5 ∧ k ≠ 6)) with rfl | rfl | rfl | rfl | rfl | ⟨q2, q3, q4, q5, q6⟩
    · cases zn : (n == 0)
      · go_enter Tryz.func62, Tryz.ntmps62
        go_wp2
        go_ret
        exact NO.out _ M0.out.rest
      · cases zs : (s.toList == [])
        · go_enter Tryz.func62, Tryz.ntmps62
          go_wp2
          go_ret
          exact NO.out _ M0.out.rest
        · go_enter Tryz.func62, Tryz.ntmps62
          go_wp2_with (show wpList _ _ _ ((⟨_, Op.load 49 _, _, _, _, _⟩ : Oper) :: _) _ _; refine Mem.go_loadPart 49 rfl rfl 27 3 rfl 2 M0.out rfl uTim sTim (by rw [HSZ.out]; exact Nat.le_trans (by decide : 27 + 3 ≤ 49) (Nat.le_add_right _ _)) (take_tim HCL.out) ?_)
          refine (HFR.out _).mono ?_
          rintro e w3 ⟨rfl, h3⟩
          have M3 := Lib.hid (M0.out.keep h3)
          clear h3
          go_wp2_with (show wpList _ _ _ ((⟨_, Op.store 49 _ _, _, _, _, _⟩ : Oper) :: _) _ _; refine Mem.go_storePart 49 rfl rfl 27 (news := #[.bool false, .int .u32 d.td, .bool (d.ta || d.tf)]) rfl rfl 2 M3.out rfl sTim (by rw [HSZ.out]; exact Nat.le_trans (by decide : 27 + 3 ≤ 49) (Nat.le_add_right _ _)) (by intro v hv; simp at hv; (repeat' rcases hv with rfl | hv) <;> (try subst hv) <;> rfl) ?_; intro w4 M4'; rw [patch_tim HCL.out] at M4'; have M4 := Lib.hid M4'; clear M4')
          go_ret
          exact ⟨{ d with ta := false, td := d.td, tf := (d.ta || d.tf) }, d.ta, L, rfl, ⟨{ HD.out with }, rfl, (fun h => by cases h), fun h _ => ⟨h, rfl⟩⟩, HL.out, M4.out.rest⟩
    · by_cases zn : n ≤ 255
      · cases zs : (s.toList == [])
        · go_enter Tryz.func62, Tryz.ntmps62
          go_wp2
          go_ret
          exact NO.out _ M0.out.rest
        · obtain ⟨c, hc⟩ : ∃ c : UInt8, n % 256 = (c.toNat : Int) := ⟨_, mod8I _⟩
          have hcn : n = (c.toNat : Int) := by have := HN.out.1; omega
          subst hcn
          have hcw : IntKind.u8.wrap (c.toNat : Int) = (c.toNat : Int) := by rw [IntKind.wrap_u8]; exact hc
          have hcw2 : (c.toNat : Int) % 256 = (c.toNat : Int) := hc
          clear hc
          go_enter Tryz.func62, Tryz.ntmps62
          go_upto_region 7 with fail
          refine Tl.start 14 (fun w' => w'.heap[b]? = some (.cells (mcA C (memV g cap) d X) T (0, 0)) ∧ w'.cell? ⟨b, 25, none⟩ = some (memV g cap) ∧ w'.heap[w.heap.size]? = some (.cells (evtA ⟨3, (c.toNat : Int), s⟩) 66 (0, 0)) ∧ w'.cell? ⟨w.heap.size, 1, none⟩ = some (.int .u32 (c.toNat : Int)) ∧ w'.cell? ⟨w.heap.size, 2, none⟩ = some (.string s)) (by kernel_rfl) (HB.out _ (M0.out.drew.blk 2 rfl) (M0.out.drew.blk 0 rfl)) (fun hHeld => ?_)
          refine Tl.tf 0 (⟨some 50, .move (.tmp 0), 131, "machine.go:177", #[], none⟩ : Oper) ?v1 rfl ?hy1 (by assumption) ?_
          case hy1 => (intro w; go_simp; all_goals (with_reducible rfl))
          try simp only [Act.put, Tl.p2, Tl.p3, Tl.p4]
          refine Tl.tf 1 (⟨some 51, .move (.tmp 0), 131, "machine.go:177", #[], none⟩ : Oper) ?v2 rfl ?hy2 (by assumption) ?_
          case hy2 => (intro w; go_simp; all_goals (with_reducible rfl))
          try simp only [Act.put, Tl.p2, Tl.p3, Tl.p4]
          refine Tl.tf 2 (⟨some 52, .nilCheck (.tmp 51), 0, "machine.go:177", #[⟨1, .data⟩], none⟩ : Oper) ?v3 rfl ?hy3 (by assumption) ?_
          case hy3 => (intro w; go_simp; all_goals (with_reducible rfl))
          try simp only [Act.put, Tl.p2, Tl.p3, Tl.p4]
          refine Tl.tf 3 (⟨some 53, .fieldAddr 57 (.tmp 52) 2, 0, "machine.go:177", #[⟨2, .data⟩], none⟩ : Oper) ?v4 rfl ?hy4 (by assumption) ?_
          case hy4 => (intro w; go_simp; all_goals (with_reducible rfl))
          try simp only [Act.put, Tl.p2, Tl.p3, Tl.p4]
          refine Tl.ty 4 (⟨some 54, .load 47 (.tmp 53), 47, "machine.go:177", #[⟨3, .data⟩], none⟩ : Oper) (.agg (#[.string d.keys])) rfl (Big.yields_part 47 rfl rfl 26 1 rfl (fun w' h => h.1) uCon sCon (by rw [HSZ.out]; exact Nat.le_trans (by decide : 26 + 1 ≤ 49) (Nat.le_add_right _ _)) (take_con HCL.out)) (by assumption) ?_
          try simp only [Act.put, Tl.p2, Tl.p3, Tl.p4]
          refine Tl.tf 5 (⟨some 55, .fieldAddr 66 (.tmp 3) 1, 0, "machine.go:177", #[], none⟩ : Oper) ?v6 rfl ?hy6 (by assumption) ?_
          case hy6 => (intro w; go_simp; all_goals (with_reducible rfl))
          try simp only [Act.put, Tl.p2, Tl.p3, Tl.p4]
          refine Tl.tk 6 (⟨some 56, .load 40 (.tmp 55), 40, "machine.go:177", #[⟨5, .data⟩], none⟩ : Oper) ?v7 rfl ?hy7 (by assumption) ?_
          case hy7 => (intro w hSw; (try dsimp only at hSw); go_simp; all_goals (with_reducible rfl))
          try simp only [Act.put, Tl.p2, Tl.p3, Tl.p4]
          refine Tl.tf 7 (⟨some 57, .convert 40 5 (.tmp 56), 5, "machine.go:177", #[⟨6, .data⟩], none⟩ : Oper) ?v8 rfl ?hy8 (by assumption) ?_
          case hy8 => (intro w; go_simp; all_goals (with_reducible rfl))
          try simp only [Act.put, Tl.p2, Tl.p3, Tl.p4]
          refine Tl.step (i := 8) (o := (⟨some 58, .call { callee := .value (.func 86), args := #[.tmp 54, .tmp 57], argTypes := #[47, 5] }, 161, "machine.go:177", #[⟨4, .data⟩, ⟨7, .data⟩], none⟩ : Oper)) (by kernel_rfl) rfl (fun K hK => ?_)
          go_simp
          go_at_call 86
          refine (HTY.out c _).mono ?_
          rintro e w3 ⟨s2, ok, rfl, hs2, h3⟩
          have M3 := Lib.hid (M0.out.drew.keep h3)
          have HS2 := Lib.hid hs2
          clear hs2 h3
          dsimp only
          refine hK.out _ _ (HB.out _ (M3.out.blk 2 rfl) (M3.out.blk 0 rfl)) (fun hHeld => ?_)
          clear hK K
          try simp only [Act.put, Tl.p2, Tl.p3, Tl.p4]
          refine Tl.tf 9 (⟨some 49, .move (.tmp 58), 161, "machine.go:177", #[⟨8, .data⟩], none⟩ : Oper) ?v9 rfl ?hy9 (by assumption) ?_
          case hy9 => (intro w; go_simp; all_goals (with_reducible rfl))
          try simp only [Act.put, Tl.p2, Tl.p3, Tl.p4]
          refine Tl.tf 10 (⟨some 59, .extract (.tmp 49) 0, 47, "machine.go:177", #[⟨9, .data⟩], none⟩ : Oper) ?v10 rfl ?hy10 (by assumption) ?_
          case hy10 => (intro w; go_simp; all_goals (with_reducible rfl))
          try simp only [Act.put, Tl.p2, Tl.p3, Tl.p4]
          refine Tl.tf 11 (⟨some 60, .extract (.tmp 49) 1, 4, "machine.go:177", #[⟨9, .data⟩, ⟨14, .gcOnly .lateStores⟩], none⟩ : Oper) ?v11 rfl ?hy11 (by assumption) ?_
          case hy11 => (intro w; go_simp; all_goals (with_reducible rfl))
          try simp only [Act.put, Tl.p2, Tl.p3, Tl.p4]
          refine Tl.tf 12 (⟨some 61, .nilCheck (.tmp 50), 0, "machine.go:177", #[⟨0, .data⟩, ⟨0, .phase⟩, ⟨1, .phase⟩, ⟨2, .phase⟩, ⟨3, .phase⟩, ⟨4, .phase⟩, ⟨5, .phase⟩, ⟨6, .phase⟩, ⟨7, .phase⟩, ⟨8, .phase⟩, ⟨9, .phase⟩, ⟨10, .phase⟩, ⟨11, .textOnly .lateStores⟩], none⟩ : Oper) ?v12 rfl ?hy12 (by assumption) ?_
          case hy12 => (intro w; go_simp; all_goals (with_reducible rfl))
          try simp only [Act.put, Tl.p2, Tl.p3, Tl.p4]
          refine Tl.tf 13 (⟨some 62, .fieldAddr 57 (.tmp 61) 2, 0, "machine.go:177", #[⟨12, .data⟩, ⟨0, .phase⟩, ⟨1, .phase⟩, ⟨2, .phase⟩, ⟨3, .phase⟩, ⟨4, .phase⟩, ⟨5, .phase⟩, ⟨6, .phase⟩, ⟨7, .phase⟩, ⟨8, .phase⟩, ⟨9, .phase⟩, ⟨10, .phase⟩, ⟨11, .textOnly .lateStores⟩], none⟩ : Oper) ?v13 rfl ?hy13 (by assumption) ?_
          case hy13 => (intro w; go_simp; all_goals (with_reducible rfl))
          try simp only [Act.put, Tl.p2, Tl.p3, Tl.p4]
          refine Tl.stepN (i := 14) (o := (⟨none, .store 47 (.tmp 62) (.tmp 59), 0, "machine.go:177", #[⟨13, .data⟩, ⟨10, .data⟩, ⟨8, .chain⟩, ⟨0, .phase⟩, ⟨1, .phase⟩, ⟨2, .phase⟩, ⟨3, .phase⟩, ⟨4, .phase⟩, ⟨5, .phase⟩, ⟨6, .phase⟩, ⟨7, .phase⟩, ⟨8, .phase⟩, ⟨9, .phase⟩, ⟨10, .phase⟩, ⟨11, .textOnly .lateStores⟩], none⟩ : Oper)) (by kernel_rfl) (by kernel_rfl) rfl (fun K hK => ?_)
          refine Mem.step_storePart 47 rfl rfl 26 (news := #[.string s2]) rfl rfl 2 M3.out rfl sCon (by rw [HSZ.out]; exact Nat.le_trans (by decide : 26 + 1 ≤ 49) (Nat.le_add_right _ _)) (by intro v hv; simp at hv; subst hv; rfl) ?_
          intro w4 MM'
          rw [patch_con HCL.out] at MM'
          (try simp only [List.set_cons_zero, List.set_cons_succ] at MM')
          have M4 := Lib.hid MM'
          clear MM'
          refine hK.out _ _ ?_
          clear hK K
          try simp only [Act.put, Tl.p2, Tl.p3, Tl.p4]
          refine Tl.td 15 (⟨some 5, .assign (.tmp 60), 4, "machine.go:177", #[⟨11, .data⟩, ⟨14, .chain⟩, ⟨0, .phase⟩, ⟨1, .phase⟩, ⟨2, .phase⟩, ⟨3, .phase⟩, ⟨4, .phase⟩, ⟨5, .phase⟩, ⟨6, .phase⟩, ⟨7, .phase⟩, ⟨8, .phase⟩, ⟨9, .phase⟩, ⟨10, .phase⟩, ⟨11, .phase⟩, ⟨12, .phase⟩, ⟨13, .phase⟩, ⟨14, .phase⟩], none⟩ : Oper) ?v14 rfl ?hy14 ?_
          case hy14 => (intro w; go_simp; all_goals (with_reducible rfl))
          try simp only [Act.put, Tl.p2, Tl.p3, Tl.p4]
          refine Tl.done (by kernel_rfl) ?_ _
          go_wp2
          go_ret
          exact ⟨{ d with keys := s2 }, ok, L, rfl, ⟨{ HD.out with keys := HS2.out }, rfl, id, fun _ h => by simp at h⟩, HL.out, M4.out.rest⟩
      · go_enter Tryz.func62, Tryz.ntmps62
        go_wp2
        go_ret
        exact NO.out _ M0.out.rest
    · go_enter Tryz.func62, Tryz.ntmps62
      go_upto_region 9 with fail
      refine Tl.start 16 (fun w' => w'.heap[b]? = some (.cells (mcA C (memV g cap) d X) T (0, 0)) ∧ w'.cell? ⟨b, 25, none⟩ = some (memV g cap) ∧ w'.heap[w.heap.size]? = some (.cells (evtA ⟨4, n, s⟩) 66 (0, 0)) ∧ w'.cell? ⟨w.heap.size, 1, none⟩ = some (.int .u32 n) ∧ w'.cell? ⟨w.heap.size, 2, none⟩ = some (.string s)) (by kernel_rfl) (HB.out _ (M0.out.drew.blk 2 rfl) (M0.out.drew.blk 0 rfl)) (fun hHeld => ?_)
      refine Tl.tf 0 (⟨some 68, .move (.tmp 0), 131, "machine.go:179", #[], none⟩ : Oper) ?v15 rfl ?hy15 (by assumption) ?_
      case hy15 => (intro w; go_simp; all_goals (with_reducible rfl))
      try simp only [Act.put, Tl.p2, Tl.p3, Tl.p4]
      refine Tl.tf 1 (⟨some 69, .move (.tmp 0), 131, "machine.go:179", #[], none⟩ : Oper) ?v16 rfl ?hy16 (by assumption) ?_
      case hy16 => (intro w; go_simp; all_goals (with_reducible rfl))
      try simp only [Act.put, Tl.p2, Tl.p3, Tl.p4]
      refine Tl.tf 2 (⟨some 70, .nilCheck (.tmp 69), 0, "machine.go:179", #[⟨1, .data⟩], none⟩ : Oper) ?v17 rfl ?hy17 (by assumption) ?_
      case hy17 => (intro w; go_simp; all_goals (with_reducible rfl))
      try simp only [Act.put, Tl.p2, Tl.p3, Tl.p4]
      refine Tl.tf 3 (⟨some 71, .fieldAddr 57 (.tmp 70) 4, 0, "machine.go:179", #[⟨2, .data⟩], none⟩ : Oper) ?v18 rfl ?hy18 (by assumption) ?_
      case hy18 => (intro w; go_simp; all_goals (with_reducible rfl))
      try simp only [Act.put, Tl.p2, Tl.p3, Tl.p4]
      refine Tl.ty 4 (⟨some 72, .load 51 (.tmp 71), 51, "machine.go:179", #[⟨3, .data⟩], none⟩ : Oper) (.agg (dskV d)) rfl (Big.yields_part 51 rfl rfl 30 8 rfl (fun w' h => h.1) uDsk sDsk (by rw [HSZ.out]; exact Nat.le_trans (by decide : 30 + 8 ≤ 49) (Nat.le_add_right _ _)) (take_dsk HCL.out)) (by assumption) ?_
      try simp only [Act.put, Tl.p2, Tl.p3, Tl.p4]
      refine Tl.tf 5 (⟨some 73, .move (.tmp 0), 131, "machine.go:179", #[], none⟩ : Oper) ?v20 rfl ?hy20 (by assumption) ?_
      case hy20 => (intro w; go_simp; all_goals (with_reducible rfl))
      try simp only [Act.put, Tl.p2, Tl.p3, Tl.p4]
      refine Tl.tf 6 (⟨some 74, .nilCheck (.tmp 73), 0, "machine.go:179", #[⟨5, .data⟩], none⟩ : Oper) ?v21 rfl ?hy21 (by assumption) ?_
      case hy21 => (intro w; go_simp; all_goals (with_reducible rfl))
      try simp only [Act.put, Tl.p2, Tl.p3, Tl.p4]
      refine Tl.tf 7 (⟨some 75, .fieldAddr 57 (.tmp 74) 1, 0, "machine.go:179", #[⟨6, .data⟩], none⟩ : Oper) ?v22 rfl ?hy22 (by assumption) ?_
      case hy22 => (intro w; go_simp; all_goals (with_reducible rfl))
      try simp only [Act.put, Tl.p2, Tl.p3, Tl.p4]
      refine Tl.tk 8 (⟨some 76, .load 45 (.tmp 75), 45, "machine.go:179", #[⟨7, .data⟩], none⟩ : Oper) ?v23 rfl ?hy23 (by assumption) ?_
      case hy23 => (intro w hSw; (try dsimp only at hSw); go_simp; all_goals (with_reducible rfl))
      try simp only [Act.put, Tl.p2, Tl.p3, Tl.p4]
      refine Tl.ty 9 (⟨some 77, .load 66 (.tmp 3), 66, "machine.go:179", #[], none⟩ : Oper) (.agg (evtA ⟨4, n, s⟩)) rfl (Big.yields_load 66 rfl rfl rfl (fun w' h => h.2.2.1) uEvt sEvt) (by assumption) ?_
      try simp only [Act.put, Tl.p2, Tl.p3, Tl.p4]
      refine Tl.step (i := 10) (o := (⟨some 78, .call { callee := .value (.func 87), args := #[.tmp 72, .tmp 76, .tmp 77], argTypes := #[51, 45, 66] }, 163, "machine.go:179", #[⟨4, .data⟩, ⟨8, .data⟩, ⟨9, .data⟩], none⟩ : Oper)) (by kernel_rfl) rfl (fun K hK => ?_)
      go_simp
      go_at_call 87
      refine (HFI.out n _ M0.out.drew.up1).mono ?_
      rintro e w3 ⟨x0, x1, x2, x3, x4, x5, x6, x7, ok, L2, rfl, hok, hL2, h3⟩
      have M3 := Lib.hid h3
      have HOK := Lib.hid hok
      clear hok h3
      dsimp only
      refine hK.out _ _ (HB.out _ (M3.out.blk 2 rfl) (M3.out.blk 1 rfl)) (fun hHeld => ?_)
      clear hK K
      try simp only [Act.put, Tl.p2, Tl.p3, Tl.p4]
      refine Tl.tf 11 (⟨some 67, .move (.tmp 78), 163, "machine.go:179", #[⟨10, .data⟩], none⟩ : Oper) ?v25 rfl ?hy25 (by assumption) ?_
      case hy25 => (intro w; go_simp; all_goals (with_reducible rfl))
      try simp only [Act.put, Tl.p2, Tl.p3, Tl.p4]
      refine Tl.tf 12 (⟨some 79, .extract (.tmp 67) 0, 51, "machine.go:179", #[⟨11, .data⟩], none⟩ : Oper) ?v26 rfl ?hy26 (by assumption) ?_
      case hy26 => (intro w; go_simp; all_goals (with_reducible rfl))
      try simp only [Act.put, Tl.p2, Tl.p3, Tl.p4]
      refine Tl.tf 13 (⟨some 80, .extract (.tmp 67) 1, 4, "machine.go:179", #[⟨11, .data⟩, ⟨16, .gcOnly .lateStores⟩], none⟩ : Oper) ?v27 rfl ?hy27 (by assumption) ?_
      case hy27 => (intro w; go_simp; all_goals (with_reducible rfl))
      try simp only [Act.put, Tl.p2, Tl.p3, Tl.p4]
      refine Tl.tf 14 (⟨some 81, .nilCheck (.tmp 68), 0, "machine.go:179", #[⟨0, .data⟩, ⟨0, .phase⟩, ⟨1, .phase⟩, ⟨2, .phase⟩, ⟨3, .phase⟩, ⟨4, .phase⟩, ⟨5, .phase⟩, ⟨6, .phase⟩, ⟨7, .phase⟩, ⟨8, .phase⟩, ⟨9, .phase⟩, ⟨10, .phase⟩, ⟨11, .phase⟩, ⟨12, .phase⟩, ⟨13, .textOnly .lateStores⟩], none⟩ : Oper) ?v28 rfl ?hy28 (by assumption) ?_
      case hy28 => (intro w; go_simp; all_goals (with_reducible rfl))
      try simp only [Act.put, Tl.p2, Tl.p3, Tl.p4]
      refine Tl.tf 15 (⟨some 82, .fieldAddr 57 (.tmp 81) 4, 0, "machine.go:179", #[⟨14, .data⟩, ⟨0, .phase⟩, ⟨1, .phase⟩, ⟨2, .phase⟩, ⟨3, .phase⟩, ⟨4, .phase⟩, ⟨5, .phase⟩, ⟨6, .phase⟩, ⟨7, .phase⟩, ⟨8, .phase⟩, ⟨9, .phase⟩, ⟨10, .phase⟩, ⟨11, .phase⟩, ⟨12, .phase⟩, ⟨13, .textOnly .lateStores⟩], none⟩ : Oper) ?v29 rfl ?hy29 (by assumption) ?_
      case hy29 => (intro w; go_simp; all_goals (with_reducible rfl))
      try simp only [Act.put, Tl.p2, Tl.p3, Tl.p4]
      refine Tl.stepN (i := 16) (o := (⟨none, .store 51 (.tmp 82) (.tmp 79), 0, "machine.go:179", #[⟨15, .data⟩, ⟨12, .data⟩, ⟨10, .chain⟩, ⟨0, .phase⟩, ⟨1, .phase⟩, ⟨2, .phase⟩, ⟨3, .phase⟩, ⟨4, .phase⟩, ⟨5, .phase⟩, ⟨6, .phase⟩, ⟨7, .phase⟩, ⟨8, .phase⟩, ⟨9, .phase⟩, ⟨10, .phase⟩, ⟨11, .phase⟩, ⟨12, .phase⟩, ⟨13, .textOnly .lateStores⟩], none⟩ : Oper)) (by kernel_rfl) (by kernel_rfl) rfl (fun K hK => ?_)
      refine Mem.step_storePart 51 rfl rfl 30 (news := dskA x0 x1 x2 x3 x4 x5 x6 x7) rfl rfl 2 M3.out rfl sDsk (by rw [HSZ.out]; exact Nat.le_trans (by decide : 30 + 8 ≤ 49) (Nat.le_add_right _ _)) (dsk_one _ _ _ _ _ _ _ _) ?_
      intro w4 MM'
      rw [patch_dsk HCL.out] at MM'
      (try simp only [List.set_cons_zero, List.set_cons_succ] at MM')
      have M4 := Lib.hid MM'
      clear MM'
      refine hK.out _ _ ?_
      clear hK K
      try simp only [Act.put, Tl.p2, Tl.p3, Tl.p4]
      refine Tl.td 17 (⟨some 5, .assign (.tmp 80), 4, "machine.go:179", #[⟨13, .data⟩, ⟨16, .chain⟩, ⟨0, .phase⟩, ⟨1, .phase⟩, ⟨2, .phase⟩, ⟨3, .phase⟩, ⟨4, .phase⟩, ⟨5, .phase⟩, ⟨6, .phase⟩, ⟨7, .phase⟩, ⟨8, .phase⟩, ⟨9, .phase⟩, ⟨10, .phase⟩, ⟨11, .phase⟩, ⟨12, .phase⟩, ⟨13, .phase⟩, ⟨14, .phase⟩, ⟨15, .phase⟩, ⟨16, .phase⟩], none⟩ : Oper) ?v30 rfl ?hy30 ?_
      case hy30 => (intro w; go_simp; all_goals (with_reducible rfl))
      try simp only [Act.put, Tl.p2, Tl.p3, Tl.p4]
      refine Tl.done (by kernel_rfl) ?_ _
      go_wp2
      go_ret
      exact ⟨{ d with dbs := x0, dbl := x1, dfr := x2, dst := x3, dcm := x4, dob := x5, dof := x6, dod := x7 }, ok, L2, rfl, ⟨{ HD.out with dbs := HOK.out.1, dbl := HOK.out.2.1, dfr := HOK.out.2.2.1, dst := HOK.out.2.2.2.1, dcm := HOK.out.2.2.2.2.1, dob := HOK.out.2.2.2.2.2.1, dof := HOK.out.2.2.2.2.2.2.1, dod := HOK.out.2.2.2.2.2.2.2 }, rfl, id, fun _ h => by simp at h⟩, hL2, M4.out.dn1.rest⟩
    · cases zn : (n == 0)
      · go_enter Tryz.func62, Tryz.ntmps62
        go_wp2
        go_ret
        exact NO.out _ M0.out.rest
      · go_enter Tryz.func62, Tryz.ntmps62
        go_upto_region 11 with fail
        refine Tl.start 17 (fun w' => w'.heap[b]? = some (.cells (mcA C (memV g cap) d X) T (0, 0)) ∧ w'.cell? ⟨b, 25, none⟩ = some (memV g cap) ∧ w'.heap[w.heap.size]? = some (.cells (evtA ⟨5, n, s⟩) 66 (0, 0)) ∧ w'.cell? ⟨w.heap.size, 1, none⟩ = some (.int .u32 n) ∧ w'.cell? ⟨w.heap.size, 2, none⟩ = some (.string s)) (by kernel_rfl) (HB.out _ (M0.out.drew.blk 2 rfl) (M0.out.drew.blk 0 rfl)) (fun hHeld => ?_)
        refine Tl.tf 0 (⟨some 93, .move (.tmp 0), 131, "machine.go:181", #[], none⟩ : Oper) ?v31 rfl ?hy31 (by assumption) ?_
        case hy31 => (intro w; go_simp; all_goals (with_reducible rfl))
        try simp only [Act.put, Tl.p2, Tl.p3, Tl.p4]
        refine Tl.tf 1 (⟨some 94, .move (.tmp 0), 131, "machine.go:181", #[], none⟩ : Oper) ?v32 rfl ?hy32 (by assumption) ?_
        case hy32 => (intro w; go_simp; all_goals (with_reducible rfl))
        try simp only [Act.put, Tl.p2, Tl.p3, Tl.p4]
        refine Tl.tf 2 (⟨some 95, .nilCheck (.tmp 94), 0, "machine.go:181", #[⟨1, .data⟩], none⟩ : Oper) ?v33 rfl ?hy33 (by assumption) ?_
        case hy33 => (intro w; go_simp; all_goals (with_reducible rfl))
        try simp only [Act.put, Tl.p2, Tl.p3, Tl.p4]
        refine Tl.tf 3 (⟨some 96, .fieldAddr 57 (.tmp 95) 5, 0, "machine.go:181", #[⟨2, .data⟩], none⟩ : Oper) ?v34 rfl ?hy34 (by assumption) ?_
        case hy34 => (intro w; go_simp; all_goals (with_reducible rfl))
        try simp only [Act.put, Tl.p2, Tl.p3, Tl.p4]
        refine Tl.ty 4 (⟨some 97, .load 53 (.tmp 96), 53, "machine.go:181", #[⟨3, .data⟩], none⟩ : Oper) (.agg (nicV d)) rfl (Big.yields_part 53 rfl rfl 38 6 rfl (fun w' h => h.1) uNic sNic (by rw [HSZ.out]; exact Nat.le_trans (by decide : 38 + 6 ≤ 49) (Nat.le_add_right _ _)) (take_nic HCL.out)) (by assumption) ?_
        try simp only [Act.put, Tl.p2, Tl.p3, Tl.p4]
        refine Tl.tf 5 (⟨some 98, .move (.tmp 0), 131, "machine.go:181", #[], none⟩ : Oper) ?v36 rfl ?hy36 (by assumption) ?_
        case hy36 => (intro w; go_simp; all_goals (with_reducible rfl))
        try simp only [Act.put, Tl.p2, Tl.p3, Tl.p4]
        refine Tl.tf 6 (⟨some 99, .nilCheck (.tmp 98), 0, "machine.go:181", #[⟨5, .data⟩], none⟩ : Oper) ?v37 rfl ?hy37 (by assumption) ?_
        case hy37 => (intro w; go_simp; all_goals (with_reducible rfl))
        try simp only [Act.put, Tl.p2, Tl.p3, Tl.p4]
        refine Tl.tf 7 (⟨some 100, .fieldAddr 57 (.tmp 99) 1, 0, "machine.go:181", #[⟨6, .data⟩], none⟩ : Oper) ?v38 rfl ?hy38 (by assumption) ?_
        case hy38 => (intro w; go_simp; all_goals (with_reducible rfl))
        try simp only [Act.put, Tl.p2, Tl.p3, Tl.p4]
        refine Tl.tk 8 (⟨some 101, .load 45 (.tmp 100), 45, "machine.go:181", #[⟨7, .data⟩], none⟩ : Oper) ?v39 rfl ?hy39 (by assumption) ?_
        case hy39 => (intro w hSw; (try dsimp only at hSw); go_simp; all_goals (with_reducible rfl))
        try simp only [Act.put, Tl.p2, Tl.p3, Tl.p4]
        refine Tl.tf 9 (⟨some 102, .fieldAddr 66 (.tmp 3) 2, 0, "machine.go:181", #[], none⟩ : Oper) ?v40 rfl ?hy40 (by assumption) ?_
        case hy40 => (intro w; go_simp; all_goals (with_reducible rfl))
        try simp only [Act.put, Tl.p2, Tl.p3, Tl.p4]
        refine Tl.tk 10 (⟨some 103, .load 9 (.tmp 102), 9, "machine.go:181", #[⟨9, .data⟩], none⟩ : Oper) ?v41 rfl ?hy41 (by assumption) ?_
        case hy41 => (intro w hSw; (try dsimp only at hSw); go_simp; all_goals (with_reducible rfl))
        try simp only [Act.put, Tl.p2, Tl.p3, Tl.p4]
        refine Tl.step (i := 11) (o := (⟨some 104, .call { callee := .value (.func 88), args := #[.tmp 97, .tmp 101, .tmp 103], argTypes := #[53, 45, 9] }, 165, "machine.go:181", #[⟨4, .data⟩, ⟨8, .data⟩, ⟨10, .data⟩], none⟩ : Oper)) (by kernel_rfl) rfl (fun K hK => ?_)
        go_simp
        go_at_call 88
        refine (HAC.out _ M0.out.drew.up1).mono ?_
        rintro e w3 ⟨x0, x1, x2, x3, x4, x5, ok, L2, rfl, hok, hL2, h3⟩
        have M3 := Lib.hid h3
        have HOK := Lib.hid hok
        clear hok h3
        dsimp only
        refine hK.out _ _ (HB.out _ (M3.out.blk 2 rfl) (M3.out.blk 1 rfl)) (fun hHeld => ?_)
        clear hK K
        try simp only [Act.put, Tl.p2, Tl.p3, Tl.p4]
        refine Tl.tf 12 (⟨some 92, .move (.tmp 104), 165, "machine.go:181", #[⟨11, .data⟩], none⟩ : Oper) ?v42 rfl ?hy42 (by assumption) ?_
        case hy42 => (intro w; go_simp; all_goals (with_reducible rfl))
        try simp only [Act.put, Tl.p2, Tl.p3, Tl.p4]
        refine Tl.tf 13 (⟨some 105, .extract (.tmp 92) 0, 53, "machine.go:181", #[⟨12, .data⟩], none⟩ : Oper) ?v43 rfl ?hy43 (by assumption) ?_
        case hy43 => (intro w; go_simp; all_goals (with_reducible rfl))
        try simp only [Act.put, Tl.p2, Tl.p3, Tl.p4]
        refine Tl.tf 14 (⟨some 106, .extract (.tmp 92) 1, 4, "machine.go:181", #[⟨12, .data⟩, ⟨17, .gcOnly .lateStores⟩], none⟩ : Oper) ?v44 rfl ?hy44 (by assumption) ?_
        case hy44 => (intro w; go_simp; all_goals (with_reducible rfl))
        try simp only [Act.put, Tl.p2, Tl.p3, Tl.p4]
        refine Tl.tf 15 (⟨some 107, .nilCheck (.tmp 93), 0, "machine.go:181", #[⟨0, .data⟩, ⟨0, .phase⟩, ⟨1, .phase⟩, ⟨2, .phase⟩, ⟨3, .phase⟩, ⟨4, .phase⟩, ⟨5, .phase⟩, ⟨6, .phase⟩, ⟨7, .phase⟩, ⟨8, .phase⟩, ⟨9, .phase⟩, ⟨10, .phase⟩, ⟨11, .phase⟩, ⟨12, .phase⟩, ⟨13, .phase⟩, ⟨14, .textOnly .lateStores⟩], none⟩ : Oper) ?v45 rfl ?hy45 (by assumption) ?_
        case hy45 => (intro w; go_simp; all_goals (with_reducible rfl))
        try simp only [Act.put, Tl.p2, Tl.p3, Tl.p4]
        refine Tl.tf 16 (⟨some 108, .fieldAddr 57 (.tmp 107) 5, 0, "machine.go:181", #[⟨15, .data⟩, ⟨0, .phase⟩, ⟨1, .phase⟩, ⟨2, .phase⟩, ⟨3, .phase⟩, ⟨4, .phase⟩, ⟨5, .phase⟩, ⟨6, .phase⟩, ⟨7, .phase⟩, ⟨8, .phase⟩, ⟨9, .phase⟩, ⟨10, .phase⟩, ⟨11, .phase⟩, ⟨12, .phase⟩, ⟨13, .phase⟩, ⟨14, .textOnly .lateStores⟩], none⟩ : Oper) ?v46 rfl ?hy46 (by assumption) ?_
        case hy46 => (intro w; go_simp; all_goals (with_reducible rfl))
        try simp only [Act.put, Tl.p2, Tl.p3, Tl.p4]
        refine Tl.stepN (i := 17) (o := (⟨none, .store 53 (.tmp 108) (.tmp 105), 0, "machine.go:181", #[⟨16, .data⟩, ⟨13, .data⟩, ⟨11, .chain⟩, ⟨0, .phase⟩, ⟨1, .phase⟩, ⟨2, .phase⟩, ⟨3, .phase⟩, ⟨4, .phase⟩, ⟨5, .phase⟩, ⟨6, .phase⟩, ⟨7, .phase⟩, ⟨8, .phase⟩, ⟨9, .phase⟩, ⟨10, .phase⟩, ⟨11, .phase⟩, ⟨12, .phase⟩, ⟨13, .phase⟩, ⟨14, .textOnly .lateStores⟩], none⟩ : Oper)) (by kernel_rfl) (by kernel_rfl) rfl (fun K hK => ?_)
        refine Mem.step_storePart 53 rfl rfl 38 (news := nicA x0 x1 x2 x3 x4 x5) rfl rfl 2 M3.out rfl sNic (by rw [HSZ.out]; exact Nat.le_trans (by decide : 38 + 6 ≤ 49) (Nat.le_add_right _ _)) (nic_one _ _ _ _ _ _) ?_
        intro w4 MM'
        rw [patch_nic HCL.out] at MM'
        (try simp only [List.set_cons_zero, List.set_cons_succ] at MM')
        have M4 := Lib.hid MM'
        clear MM'
        refine hK.out _ _ ?_
        clear hK K
        try simp only [Act.put, Tl.p2, Tl.p3, Tl.p4]
        refine Tl.td 18 (⟨some 5, .assign (.tmp 106), 4, "machine.go:181", #[⟨14, .data⟩, ⟨17, .chain⟩, ⟨0, .phase⟩, ⟨1, .phase⟩, ⟨2, .phase⟩, ⟨3, .phase⟩, ⟨4, .phase⟩, ⟨5, .phase⟩, ⟨6, .phase⟩, ⟨7, .phase⟩, ⟨8, .phase⟩, ⟨9, .phase⟩, ⟨10, .phase⟩, ⟨11, .phase⟩, ⟨12, .phase⟩, ⟨13, .phase⟩, ⟨14, .phase⟩, ⟨15, .phase⟩, ⟨16, .phase⟩, ⟨17, .phase⟩], none⟩ : Oper) ?v47 rfl ?hy47 ?_
        case hy47 => (intro w; go_simp; all_goals (with_reducible rfl))
        try simp only [Act.put, Tl.p2, Tl.p3, Tl.p4]
        refine Tl.done (by kernel_rfl) ?_ _
        go_wp2
        go_ret
        exact ⟨{ d with nfr := x0, nln := x1, npo := x2, nbu := x3, nrc := x4, ngo := x5 }, ok, L2, rfl, ⟨{ HD.out with nfr := HOK.out.1, nln := HOK.out.2.1, nbu := HOK.out.2.2.1, ngo := HOK.out.2.2.2 }, rfl, id, fun _ h => by simp at h⟩, hL2, M4.out.dn1.rest⟩
    · cases zs : (s.toList == [])
      · go_enter Tryz.func62, Tryz.ntmps62
        go_wp2
        go_ret
        exact NO.out _ M0.out.rest
      · have f44 := M0.out.free 2 rfl 44
        have e44 := M0.out.cell 2 rfl 44 (mc_dv (mv := memV g cap) (X := X) HCL.out (j := 18) (by decide) (v := .int .u32 d.bta) rfl)
        have g44 := MX.out.free 1 rfl 44
        have h44 := MX.out.cell 1 rfl 44 (mc_dv (mv := memV g cap) (X := X) HCL.out (j := 18) (by decide) (v := .int .u32 d.bta) rfl)
        have M4' := MX.out.put 1 rfl 44 (.int .u32 n)
        rw [set_bta HCL.out] at M4'
        (try simp only [List.set_cons_zero, List.set_cons_succ] at M4')
        have M4 := Lib.hid M4'
        clear M4'
        go_enter Tryz.func62, Tryz.ntmps62
        go_wp2
        go_ret
        exact ⟨{ d with bta := n }, true, L, rfl, ⟨{ HD.out with bta := HN.out }, rfl, id, fun _ h => by simp at h⟩, HL.out, M4.out.skip _⟩
    · have z2 : (k == 2) = false := by rw [beq_eq_false_iff_ne]; exact q2
      have z3 : (k == 3) = false := by rw [beq_eq_false_iff_ne]; exact q3
      have z4 : (k == 4) = false := by rw [beq_eq_false_iff_ne]; exact q4
      have z5 : (k == 5) = false := by rw [beq_eq_false_iff_ne]; exact q5
      have z6 : (k == 6) = false := by rw [beq_eq_false_iff_ne]; exact q6
      clear q2 q3 q4 q5 q6
      go_enter Tryz.func62, Tryz.ntmps62
      go_wp2
      go_ret
      exact NO.out _ M0.out.rest
  · rw [hh] at c48 d48
    go_enter Tryz.func62, Tryz.ntmps62
    go_wp2
    go_ret
    exact NO.out _ M0.out.rest
set_option maxHeartbeats 1000000 in
theorem accept7_any (W : World) (b : Nat) (T : TypeId) (C : List Int) (g cap : Nat) (d : Dv) (X : List Value) (F : List Ck) (L : List Int) (x : Evt) (hn : Wd x.n) (hC : C.length = 25) (hd : DvOK d) (hL : MemOK L) (w : World) (hM : Mem W w (memR W.heap.size g cap L :: macB b T C (memV g cap) d X :: F)) :
    Calls Tryz.prog 131 #[.pointer (some ⟨b, 0, none⟩), .agg (evtA x)] w (AppTo W b T C g cap d X F x) := by
  have HA := Lib.hid fun (w' : World) (h : Mem W w' (memR W.heap.size g cap L :: macB b T C (memV g cap) d X :: F)) => apply_any W b T C g cap d X F L x hn hC hd hL w' h
  have M0 := Lib.hid hM
  have M1 := Lib.hid (hM.allocF (b := w.heap.size) rfl (evtA x) 66)
  unfold AppTo at *
  clear hM hC hd hL hn
  go_enter Tryz.func131, Tryz.ntmps131
  go_wp2_with fail
  refine (HA.out _ M1.out.rest).mono ?_
  rintro e w3 ⟨d', ok, L', rfl, h⟩
  have H3 := Lib.hid h
  clear h
  go_wp2
  go_ret
  exact ⟨d', ok, L', rfl, H3.out⟩
end Ma
end Go.Proofs.YtdacgdokbfcgdaaGreat
