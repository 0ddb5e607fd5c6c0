/-
  Contracts of the reference's machine: one instruction.
  Contracts of the reference's devices: small functions.
  Contracts of the reference's devices: the balloon.
  Contracts of the reference's devices: the console.
-/
import Derived.Test.YtdacgdokbfcgdaaGreatW6
import Derived.Test.YtdacgdokbfcgdaaGreatW7
import Derived.Test.YtdacgdokbfcgdaaGreatW4
import Derived.Test.YtdacgdokbfcgdaaGreatW3
import Derived.Test.YtdacgdokbfcgdaaGreatW2
import Derived.Deep.CutBlock
import Derived.Deep.DeepCutAuto
set_option linter.unusedVariables false
set_option linter.unusedSimpArgs false
set_option maxRecDepth 100000
namespace Go.Proofs.YtdacgdokbfcgdaaGreat
open Go.RowKit Go.BigFrame Go.Sort Go.Lib
namespace Ma
open As (form validI insV Ins bounds)
theorem uIns : ∃ fs, Tryz.prog.underlying 123 = some (.struct fs) := ⟨_, Tryz.underlying123⟩
theorem sIns : (Tryz.prog.info? 123).map (·.size) = some 5 := by kernel_rfl
theorem valid_bd {x : Ins} (h : validI x = true) : x.a ≤ 15 ∧ x.b ≤ 15 ∧ x.c ≤ 15 ∧ form x.op ≠ 0 ∧ (bounds (form x.op)).1 ≤ x.i ∧ x.i ≤ (bounds (form x.op)).2 := by
  unfold validI at h
  simp only [Bool.and_eq_true, decide_eq_true_eq] at h
  exact ⟨h.1.1.1.1.1.1.1.2, h.1.1.1.1.1.1.2, h.1.1.1.1.1.2, h.1.1.1.1.1.1.1.1, h.1.1.1.1.2, h.1.1.1.2⟩
theorem form_ops {op : Nat} (h : form op ≠ 0) : (1 ≤ op ∧ op ≤ 13) ∨ (16 ≤ op ∧ op ≤ 23) ∨ op = 24 ∨ (32 ≤ op ∧ op ≤ 36) ∨ (40 ≤ op ∧ op ≤ 45) ∨ op = 48 ∨ op = 49 ∨ (56 ≤ op ∧ op ≤ 64) := by
  unfold form at h
  (repeat' split at h) <;> omega
theorem imm_wd {x : Ins} (h : validI x = true) : -32768 ≤ x.i ∧ x.i ≤ 65535 := by
  have h2 := (valid_bd h).2.2.2.2
  unfold bounds at h2
  (repeat' split at h2) <;> simp only at h2 <;> omega
theorem system_any (x : Ins) (hv : validI x = true) (h : 56 ≤ x.op) (L : List Int) (hL : CpuOK L) (w : World) : Calls Tryz.prog 118 #[.agg (wA L), insV x.op x.a x.b x.c x.i] w (EffTo (if x.op = 60 then some 1 else none) w) := by
  obtain ⟨op, a, b, c, i⟩ := x
  obtain ⟨h1, h2, h3, h4, h5, h6⟩ := valid_bd hv
  dsimp only at h h1 h2 h3 h4 h5 h6 ⊢
  have hop : 56 ≤ op ∧ op ≤ 64 := by rcases form_ops h4 with h | h | h | h | h | h | h | h <;> omega
  clear hv h4
  rcases (by omega : op = 56 ∨ op = 57 ∨ op = 58 ∨ op = 59 ∨ op = 60 ∨ op = 61 ∨ op = 62 ∨ op = 63 ∨ op = 64) with rfl | rfl | rfl | rfl | rfl | rfl | rfl | rfl | rfl
  · exact system_ecall a b c i L hL w
  · exact system_eret a b c i L hL w
  · obtain ⟨k, rfl⟩ : ∃ k : Nat, i = k := ⟨i.toNat, by simp [bounds, form] at h5 h6; omega⟩
    exact system_csrr a b c k h1 (by simp [bounds, form] at h5 h6; omega) L hL w
  · obtain ⟨k, rfl⟩ : ∃ k : Nat, i = k := ⟨i.toNat, by simp [bounds, form] at h5 h6; omega⟩
    exact system_csrw a b c k h1 (by simp [bounds, form] at h5 h6; omega) L hL w
  · obtain ⟨k, rfl⟩ : ∃ k : Nat, i = k := ⟨i.toNat, by simp [bounds, form] at h5 h6; omega⟩
    exact system_in a b c k h1 (by simp [bounds, form] at h5 h6; omega) L hL w
  · obtain ⟨k, rfl⟩ : ∃ k : Nat, i = k := ⟨i.toNat, by simp [bounds, form] at h5 h6; omega⟩
    exact system_out a b c k h1 (by simp [bounds, form] at h5 h6; omega) L hL w
  · obtain ⟨k, rfl⟩ : ∃ k : Nat, i = k := ⟨i.toNat, by simp [bounds, form] at h5 h6; omega⟩
    exact system_wfi a b c k h1 L hL w
  · obtain ⟨k, rfl⟩ : ∃ k : Nat, i = k := ⟨i.toNat, by simp [bounds, form] at h5 h6; omega⟩
    exact system_flush a b c k h1 L hL w
  · obtain ⟨k, rfl⟩ : ∃ k : Nat, i = k := ⟨i.toNat, by simp [bounds, form] at h5 h6; omega⟩
    exact system_halt a b c k h1 L hL w
theorem jump_any (x : Ins) (hv : validI x = true) (h : 40 ≤ x.op ∧ x.op ≤ 49) (L : List Int) (hL : CpuOK L) (w : World) : Calls Tryz.prog 119 #[.agg (wA L), insV x.op x.a x.b x.c x.i] w (CpuSome w) := by
  obtain ⟨op, a, b, c, i⟩ := x
  obtain ⟨h1, h2, h3, h4, h5, h6⟩ := valid_bd hv
  dsimp only at h h1 h2 h3 h4 h5 h6 ⊢
  have hop : (40 ≤ op ∧ op ≤ 45) ∨ op = 48 ∨ op = 49 := by rcases form_ops h4 with h | h | h | h | h | h | h | h <;> omega
  rcases hop with ho | rfl | rfl
  · exact jump_br op a b c i ho h1 h2 L hL w
  · exact jump_jal a b c i h1 h2 L hL w
  · exact jump_jalr a b c i h1 h2 L hL w
theorem xfer_any (x : Ins) (hv : validI x = true) (h : 32 ≤ x.op ∧ x.op ≤ 36) (W : World) (g cap : Nat) (C L : List Int) (F : List Ck) (hC : CpuOK C) (hL : MemOK L) (w : World) (hM : Mem W w (memR W.heap.size g cap L :: F)) :
    Calls Tryz.prog 120 #[.agg (wA C), .slice (some ⟨g, 0, none⟩) 256 cap, insV x.op x.a x.b x.c x.i] w (XferTo W g cap F) := by
  obtain ⟨op, a, b, c, i⟩ := x
  obtain ⟨h1, h2, h3, h4, h5, h6⟩ := valid_bd hv
  dsimp only at h h1 h2 h3 h4 h5 h6 ⊢
  rcases (by omega : op = 32 ∨ op = 33 ∨ op = 34 ∨ op = 35 ∨ op = 36) with rfl | rfl | rfl | rfl | rfl
  · exact xfer_lw W g cap a b c i h1 h2 C L F hC hL w hM
  · exact xfer_lb W g cap a b c i h1 h2 C L F hC hL w hM
  · exact xfer_lbu W g cap a b c i h1 h2 C L F hC hL w hM
  · exact xfer_sw W g cap a b c i h1 h2 C L F hC hL w hM
  · exact xfer_sb W g cap a b c i h1 h2 C L F hC hL w hM
/-- An access in kernel mode, within the memory: exact. -/
theorem reach_k (W : World) (g cap va : Nat) (C L : List Int) (F : List Ck) (hva : va < 4294967296) (hin : inM va 4 = true) (hpg : (bits .and .u32 (C.getD 17 0) 5 == 4) = false) (hC : CpuOK C) (w : World) (hM : Mem W w (memR W.heap.size g cap L :: F)) :
    Calls Tryz.prog 116 #[.agg (wA C), .slice (some ⟨g, 0, none⟩) 256 cap, .int .u32 (va : Int), .int .i64 4, .int .i64 1] w fun e w' => e = .returned (.tuple #[.int .u32 (va : Int), .int .i64 0]) ∧ Mem W w' (memR W.heap.size g cap L :: F) := by
  have HK := Lib.hid fun w => (show Calls Tryz.prog 145 #[.int .i64 1] w (fun e w' => e = .returned (.bool true) ∧ w = w') from known_any 1 (by decide) w)
  have HW := Lib.hid fun w => within4 (some ⟨g, 0, none⟩) cap va hva w
  rw [hin] at HW
  have HPG := Lib.hid fun w => paged_any C hC w
  rw [hpg] at HPG
  have HZ : Is (wA C).size 25 := ⟨by rw [wA_size]; exact hC.len⟩
  have M1 := Lib.hid (hM.allocF (b := w.heap.size) rfl (wA C) 44)
  have zva : (va : Int) ≤ 4294967295 := by omega
  have hal : va % 4 = 0 := by
    unfold inM at hin
    simp only [Bool.and_eq_true, decide_eq_true_eq] at hin
    exact hin.1
  have hm : (va : Int).tmod 4 = 0 := by rw [Int.tmod_eq_emod_of_nonneg (by omega)]; omega
  obtain ⟨cA, hcA⟩ : ∃ cA, wA C = cA := ⟨_, rfl⟩
  rw [hcA] at M1 HZ HPG ⊢
  clear hM hC hcA hin hal hpg
  go_enter Tryz.func116, Tryz.ntmps116
  go_wp2_with fail
  refine (HK.out _).mono ?_
  rintro e w3 ⟨rfl, rfl⟩
  go_wp2_with (show wpList _ _ _ ((⟨_, Op.load 44 _, _, _, _, _⟩ : Oper) :: _) _ _; refine Mem.go_loadAll 44 rfl rfl rfl 0 M1.out rfl uCpu (by rw [HZ.out]; exact sCpu) ?_)
  refine (HPG.out _).mono ?_
  rintro e w4 ⟨rfl, h4⟩
  have M4 := Lib.hid (M1.out.keep h4)
  clear h4
  go_wp2_with fail
  refine (HW.out _).mono ?_
  rintro e w5 ⟨rfl, rfl⟩
  go_wp2
  go_ret2
  exact ⟨rfl, M4.out.rest⟩
/-- What one instruction leaves. -/
def DoTo (R : Prop) (W : World) (g cap : Nat) (F : List Ck) (e : Ending) (w' : World) : Prop := ∃ (C' L' : List Int) (k p r v : Int), e = .returned (.tuple #[.agg (wA C'), .agg #[.int .i64 k, .int .i64 p, .int .i64 r, .int .u32 v]]) ∧ CpuOK C' ∧ MemOK L' ∧ Mem W w' (memR W.heap.size g cap L' :: F) ∧ 0 ≤ r ∧ r ≤ 15 ∧ Wd v ∧ (R → k = 1)

set_option maxHeartbeats 4000000 in
theorem do_any (W : World) (g cap : Nat) (C L : List Int) (F : List Ck) (hC : CpuOK C) (hL : MemOK L) (w : World) (hM : Mem W w (memR W.heap.size g cap L :: F)) :
    Calls Tryz.prog 93 #[.agg (wA C), .slice (some ⟨g, 0, none⟩) 256 cap] w (DoTo False W g cap F) := by
  have c16 := wA_at (L := C) (j := 16) (by rw [hC.len]; decide)
  have c17 := wA_at (L := C) (j := 17) (by rw [hC.len]; decide)
  obtain ⟨pc, hpc, hpc2⟩ := wd_nat (hC.at_ 16)
  rw [hpc] at c16
  have zpc : (pc : Int) ≤ 4294967295 := by omega
  obtain ⟨st, hst⟩ : ∃ st, C.getD 17 0 = st := ⟨_, rfl⟩
  rw [hst] at c17
  have hcap := memCap hM
  have HR := Lib.hid fun (F' : List Ck) (w' : World) (h : Mem W w' (memR W.heap.size g cap L :: F')) => reach4_1 W g cap pc C L F' hpc2 hC hL w' h
  unfold RchTo at HR
  have HTR := Lib.hid fun ca bad hca w => trap_any C ca bad hC hca w
  unfold CpuTo at HTR
  have HTO := Lib.hid fun ca bad (h : 0 ≤ ca ∧ ca ≤ 100) (hb : Wd bad) => trapL_ok hC (cause := ca) (bad := bad) ⟨h.1, by omega⟩ hb
  have HLD : ∀ (ad : Nat) (L' : List Int) (h1 : ad < 1024) (hL' : MemOK L') (w' : World) (h : Sl 1 uC w' (some ⟨g, 0, none⟩) 256 L'), Calls Tryz.prog 91 #[.slice (some ⟨g, 0, none⟩) 256 cap, .int .u32 (ad : Int), .int .i64 4] w' (fun e w'' => ∃ v ok, e = .returned (.tuple #[.int .u32 v, .bool ok]) ∧ Wd v ∧ w' = w'') := fun ad L' h1 hL' w' h => (load4 (some ⟨g, 0, none⟩) cap ad L' (by omega) hcap w' h).mono fun e w'' hh => ⟨_, _, hh.1, (by split <;> first | exact Wds.getD hL'.bd _ | exact ⟨by decide, by decide⟩), hh.2⟩
  have HOKC := Lib.hid hC
  have HOKL := Lib.hid hL
  have HZ : Is (wA C).size 25 := ⟨by rw [wA_size]; exact hC.len⟩
  have M0 := Lib.hid (((hM.allocF (b := w.heap.size) rfl (wA C) 44).allocF (b := w.heap.size + 1) (by simp) z25 44).allocF (b := w.heap.size + 1 + 1) (by simp) z4 173)
  clear hM
  obtain ⟨cA, hcA⟩ : ∃ cA, wA C = cA := ⟨_, rfl⟩
  have hcA2 : Is cA (wA C) := ⟨hcA.symm⟩
  rw [hcA] at c16 c17 HZ M0 HR HTR ⊢
  clear hcA
  unfold DoTo
  go_enter Tryz.func93, Tryz.ntmps93
  go_wp2_with (show wpList _ _ _ ((⟨_, Op.load 44 _, _, _, _, _⟩ : Oper) :: _) _ _; refine Mem.go_loadAll 44 rfl rfl rfl 2 M0.out rfl uCpu (by rw [HZ.out]; exact sCpu) ?_)
  refine (HR.out _ _ M0.out.up3).mono ?_
  rintro e w5 ⟨ad, ca2, L2, rfl, had, hca0, hca1, had2, hL2, h5⟩
  have HL2 := Lib.hid hL2
  have M5 := Lib.hid h5.dn3
  clear h5 hL2 M0
  have d16 := M5.out.cell 2 rfl 16 c16
  have d17 := M5.out.cell 2 rfl 17 c17
  have zad : (ad : Int) ≤ 4294967295 := by omega
  by_cases hc0 : ca2 = 0
  · have hlt := had2 hc0
    subst hc0
    go_wp2_with fail
    refine (HLD ad L2 hlt HL2.out _ (memSl M5.out.up3)).mono ?_
    rintro e w6 ⟨v, ok, rfl, hv, rfl⟩
    obtain ⟨n, rfl, hn⟩ := wd_nat hv
    have zn : (n : Int) ≤ 4294967295 := by omega
    have HDE := Lib.hid fun w => decode_any n hn w
    unfold DecTo at HDE
    obtain ⟨dx, hdx⟩ : ∃ dx, dec n = dx := ⟨_, rfl⟩
    rw [hdx] at HDE
    cases dx with
    | none =>
      dsimp only [insO, Option.isSome] at HDE
      go_wp2_with fail
      refine (HDE.out _).mono ?_
      rintro e w7 ⟨rfl, h7⟩
      have M7 := Lib.hid ((M5.out.keep h7).allocF (b := w7.heap.size) rfl #[.int .i64 0, .int .i64 0, .int .i64 0, .int .i64 0, .int .i32 0] 123)
      have e16 := M7.out.cell 3 rfl 16 c16
      clear h7
      go_wp2_with (show wpList _ _ _ ((⟨_, Op.load 44 _, _, _, _, _⟩ : Oper) :: _) _ _; refine Mem.go_loadAll 44 rfl rfl rfl 3 M7.out rfl uCpu (by rw [HZ.out]; exact sCpu) ?_)
      refine (HTR.out 1 _ ⟨by decide, by decide⟩ _).mono ?_
      rintro e w8 ⟨rfl, h8⟩
      have M8 := Lib.hid (M7.out.keep h8)
      have HTX := Lib.hid (HTO.out 1 (n : Int) ⟨by decide, by decide⟩ ⟨by omega, by omega⟩)
      clear h8
      go_wp2_with (first | (show wpList _ _ _ ((⟨_, Op.store 44 _ _, _, _, _, _⟩ : Oper) :: _) _ _; refine Mem.go_storeAll 44 rfl rfl rfl rfl 2 M8.out rfl (by rw [wA_size, HTX.out.len]; exact sCpu) (by rw [wA_size, HTX.out.len]; rfl) (wA_one _) ?_; intro w9 M9'; have M9 := Lib.hid M9'; clear M9') | (show wpList _ _ _ ((⟨_, Op.store 173 _ _, _, _, _, _⟩ : Oper) :: _) _ _; refine Mem.go_storeAll 173 rfl rfl rfl rfl 1 M9.out rfl (sEff) (rfl) (z4_one) ?_; intro w10 M10'; have M10 := Lib.hid M10'; clear M10'))
      refine bodyPost_ret (res_cc Tryz.results93 rfl rfl (load_w (by rw [wA_size, HTX.out.len]) (M10.out.blk 2 rfl)) (load_eff (M10.out.blk 1 rfl))) rfl ?_
      exact ⟨_, _, _, _, _, _, rfl, HTX.out, HL2.out, M10.out.rest.rest.rest.rest, by decide, by decide, ⟨by decide, by decide⟩, (fun h => h.elim)⟩
    | some x =>
      have hvx : validI x = true := by
          unfold dec at hdx
          split at hdx
          · cases hdx
          · split at hdx
            · rename_i hh; injection hdx with hdx; rw [← hdx]; exact hh
            · cases hdx
      obtain ⟨b1, b2, b3, b4, b5, b6⟩ := valid_bd hvx
      have b7 := form_ops b4
      have b8 := imm_wd hvx
      have HSY := Lib.hid fun h w => system_any x hvx h C HOKC.out w
      unfold EffTo at HSY
      have HJU := Lib.hid fun h w => jump_any x hvx h C HOKC.out w
      unfold CpuSome at HJU
      have HXF := Lib.hid fun h L F hL w hM => xfer_any x hvx h W g cap C L F HOKC.out hL w hM
      unfold XferTo at HXF
      rw [← hcA2.out] at HSY HJU HXF
      have HPV := Lib.hid fun w => privileged_any x.op (by omega) w
      obtain ⟨op, a, b, c, i⟩ := x
      dsimp only [insO, Option.isSome] at HDE
      dsimp only at HSY HJU HXF HPV b1 b2 b3 b7 b8
      clear hdx hvx b4 b5 b6
      have HST := Lib.hid fun v hv w => (show Calls Tryz.prog 95 _ w (fun e w' => e = .returned (.agg (wA (setR C a v))) ∧ Held w w' ∧ CpuOK (setR C a v)) from (set_any C a v HOKC.out b1 w).mono fun e w' h => ⟨h.1, h.2, setR_ok HOKC.out a hv⟩)
      rw [← hcA2.out] at HST
      go_wp2_with fail
      refine (HDE.out _).mono ?_
      rintro e w7 ⟨rfl, h7⟩
      have M7 := Lib.hid ((M5.out.keep h7).allocF (b := w7.heap.size) rfl #[.int .i64 (op : Int), .int .i64 (a : Int), .int .i64 (b : Int), .int .i64 (c : Int), .int .i32 i] 123)
      clear h7
      obtain ⟨⟨u0, u1, u2, u3, u4⟩, _, _⟩ := M7.out.box5 0 rfl
      have HX : ∀ j : Nat, j ≤ 15 → cA[j]? = some (.int .u32 (C.getD j 0)) ∧ Wd (C.getD j 0) := fun j hj => ⟨by rw [hcA2.out]; exact wA_at (by rw [HOKC.out.len]; omega), HOKC.out.at_ j⟩
      have HXX := Lib.hid HX
      clear HX
      obtain ⟨cb, hyb⟩ := HXX.out _ b2
      obtain ⟨cc, hyc⟩ := HXX.out _ b3
      obtain ⟨xb, hxb⟩ : ∃ xb, C.getD b 0 = xb := ⟨_, rfl⟩
      obtain ⟨xc, hxc⟩ : ∃ xc, C.getD c 0 = xc := ⟨_, rfl⟩
      rw [hxb] at cb hyb
      rw [hxc] at cc hyc
      clear hxb hxc HXX
      have HB := Lib.hid (And.intro hyb hyc)
      clear hyb hyc
      have zb : (b : Int) < 16 := by omega
      have zb0 : (0 : Int) ≤ b := by omega
      have zcc : (c : Int) < 16 := by omega
      have zc0 : (0 : Int) ≤ c := by omega
      go_wp2_with fail
      refine (HPV.out _).mono ?_
      rintro e w8 ⟨rfl, h8⟩
      have M8' := M7.out
      rw [h8] at M8'
      have M8 := Lib.hid M8'
      clear M8' M7 h8 u0 u1 u2 u3 u4
      obtain ⟨⟨u0, u1, u2, u3, u4⟩, _, _⟩ := M8.out.box5 0 rfl
      have e16 := M8.out.cell 3 rfl 16 c16
      have e17 := M8.out.cell 3 rfl 17 c17
      clear d16 d17
      have hwb := M8.out.blk 0 rfl
      clear hwb
      by_cases hp : 57 ≤ op
      · have hd : decide (57 ≤ op) = true := by simpa using hp
        rw [hd]
        clear hd
        by_cases hk : (bits .and .u32 st 1 == 0) = true
        · go_wp2_with (show wpList _ _ _ ((⟨_, Op.load 44 _, _, _, _, _⟩ : Oper) :: _) _ _; refine Mem.go_loadAll 44 rfl rfl rfl 3 M8.out rfl uCpu (by rw [HZ.out]; exact sCpu) ?_)
          refine (HTR.out 2 _ ⟨by decide, by decide⟩ _).mono ?_
          rintro e w9 ⟨rfl, h9⟩
          have M9 := Lib.hid (M8.out.keep h9)
          have HTX := Lib.hid (HTO.out 2 (n : Int) ⟨by decide, by decide⟩ ⟨by omega, by omega⟩)
          clear h9
          go_wp2_with (first | (show wpList _ _ _ ((⟨_, Op.store 44 _ _, _, _, _, _⟩ : Oper) :: _) _ _; refine Mem.go_storeAll 44 rfl rfl rfl rfl 2 M9.out rfl (by rw [wA_size, HTX.out.len]; exact sCpu) (by rw [wA_size, HTX.out.len]; rfl) (wA_one _) ?_; intro w10 M10'; have M10 := Lib.hid M10'; clear M10') | (show wpList _ _ _ ((⟨_, Op.store 173 _ _, _, _, _, _⟩ : Oper) :: _) _ _; refine Mem.go_storeAll 173 rfl rfl rfl rfl 1 M10.out rfl (sEff) (rfl) (z4_one) ?_; intro w11 M11'; have M11 := Lib.hid M11'; clear M11'))
          refine bodyPost_ret (res_cc Tryz.results93 rfl rfl (load_w (by rw [wA_size, HTX.out.len]) (M11.out.blk 2 rfl)) (load_eff (M11.out.blk 1 rfl))) rfl ?_
          exact ⟨_, _, _, _, _, _, rfl, HTX.out, HL2.out, M11.out.rest.rest.rest.rest, by decide, by decide, ⟨by decide, by decide⟩, (fun h => h.elim)⟩
        · have hk2 : (bits .and .u32 st 1 == 0) = false := by simpa using hk
          clear hk
          have z56 : (56 : Int) ≤ op := by omega
          go_wp2_with (first | (show wpList _ _ _ ((⟨_, Op.load 44 _, _, _, _, _⟩ : Oper) :: _) _ _; refine Mem.go_loadAll 44 rfl rfl rfl 3 M8.out rfl uCpu (by rw [HZ.out]; exact sCpu) ?_) | (show wpList _ _ _ ((⟨_, Op.load 123 _, _, _, _, _⟩ : Oper) :: _) _ _; refine Mem.go_loadAll 123 rfl rfl rfl 0 M8.out rfl uIns (exact sIns) ?_))
          refine (HSY.out (by omega) _).mono ?_
          rintro e w9 ⟨C2, k, p, r, v2, rfl, hC2, h9, hk1, hr0, hr1, hv2⟩
          have M9 := Lib.hid (M8.out.keep h9)
          have HTX := Lib.hid hC2
          have HRR := Lib.hid (And.intro hr0 (And.intro hr1 (And.intro hv2 hk1)))
          clear h9 hC2 hr0 hr1 hv2 hk1
          go_wp2_with (first | (show wpList _ _ _ ((⟨_, Op.store 44 _ _, _, _, _, _⟩ : Oper) :: _) _ _; refine Mem.go_storeAll 44 rfl rfl rfl rfl 2 M9.out rfl (by rw [wA_size, HTX.out.len]; exact sCpu) (by rw [wA_size, HTX.out.len]; rfl) (wA_one _) ?_; intro w10 M10'; have M10 := Lib.hid M10'; clear M10') | (show wpList _ _ _ ((⟨_, Op.store 173 _ _, _, _, _, _⟩ : Oper) :: _) _ _; refine Mem.go_storeAll 173 rfl rfl rfl rfl 1 M10.out rfl (news := #[.int .i64 k, .int .i64 p, .int .i64 r, .int .u32 v2]) sEff rfl (by intro v hv; simp at hv; rcases hv with rfl | rfl | rfl | rfl <;> rfl) ?_; intro w11 M11'; have M11 := Lib.hid M11'; clear M11'))
          refine bodyPost_ret (res_cc Tryz.results93 rfl rfl (load_w (by rw [wA_size, HTX.out.len]) (M11.out.blk 2 rfl)) (load_eff (M11.out.blk 1 rfl))) rfl ?_
          exact ⟨_, _, _, _, _, _, rfl, HTX.out, HL2.out, M11.out.rest.rest.rest.rest, HRR.out.1, HRR.out.2.1, HRR.out.2.2.1, (fun h => h.elim)⟩
      · have hd : decide (57 ≤ op) = false := by simpa using hp
        rw [hd]
        clear hd
        rcases (by omega : op = 56 ∨ (40 ≤ op ∧ op ≤ 49) ∨ (32 ≤ op ∧ op ≤ 36) ∨ op = 24 ∨ ((1 ≤ op ∧ op ≤ 13) ∨ (16 ≤ op ∧ op ≤ 23))) with ho | ho | ho | ho | ho
        · subst ho
          clear hp
          go_wp2_with (first | (show wpList _ _ _ ((⟨_, Op.load 44 _, _, _, _, _⟩ : Oper) :: _) _ _; refine Mem.go_loadAll 44 rfl rfl rfl 3 M8.out rfl uCpu (by rw [HZ.out]; exact sCpu) ?_) | (show wpList _ _ _ ((⟨_, Op.load 123 _, _, _, _, _⟩ : Oper) :: _) _ _; refine Mem.go_loadAll 123 rfl rfl rfl 0 M8.out rfl uIns (exact sIns) ?_))
          refine (HSY.out (by omega) _).mono ?_
          rintro e w9 ⟨C2, k, p, r, v2, rfl, hC2, h9, hk1, hr0, hr1, hv2⟩
          have M9 := Lib.hid (M8.out.keep h9)
          have HTX := Lib.hid hC2
          have HRR := Lib.hid (And.intro hr0 (And.intro hr1 (And.intro hv2 hk1)))
          clear h9 hC2 hr0 hr1 hv2 hk1
          go_wp2_with (first | (show wpList _ _ _ ((⟨_, Op.store 44 _ _, _, _, _, _⟩ : Oper) :: _) _ _; refine Mem.go_storeAll 44 rfl rfl rfl rfl 2 M9.out rfl (by rw [wA_size, HTX.out.len]; exact sCpu) (by rw [wA_size, HTX.out.len]; rfl) (wA_one _) ?_; intro w10 M10'; have M10 := Lib.hid M10'; clear M10') | (show wpList _ _ _ ((⟨_, Op.store 173 _ _, _, _, _, _⟩ : Oper) :: _) _ _; refine Mem.go_storeAll 173 rfl rfl rfl rfl 1 M10.out rfl (news := #[.int .i64 k, .int .i64 p, .int .i64 r, .int .u32 v2]) sEff rfl (by intro v hv; simp at hv; rcases hv with rfl | rfl | rfl | rfl <;> rfl) ?_; intro w11 M11'; have M11 := Lib.hid M11'; clear M11'))
          refine bodyPost_ret (res_cc Tryz.results93 rfl rfl (load_w (by rw [wA_size, HTX.out.len]) (M11.out.blk 2 rfl)) (load_eff (M11.out.blk 1 rfl))) rfl ?_
          exact ⟨_, _, _, _, _, _, rfl, HTX.out, HL2.out, M11.out.rest.rest.rest.rest, HRR.out.1, HRR.out.2.1, HRR.out.2.2.1, (fun h => h.elim)⟩
        · have z56 : ¬ (56 : Int) ≤ op := by omega
          have z40 : (40 : Int) ≤ op := by omega
          go_wp2_with (first | (show wpList _ _ _ ((⟨_, Op.load 44 _, _, _, _, _⟩ : Oper) :: _) _ _; refine Mem.go_loadAll 44 rfl rfl rfl 3 M8.out rfl uCpu (by rw [HZ.out]; exact sCpu) ?_) | (show wpList _ _ _ ((⟨_, Op.load 123 _, _, _, _, _⟩ : Oper) :: _) _ _; refine Mem.go_loadAll 123 rfl rfl rfl 0 M8.out rfl uIns (exact sIns) ?_))
          refine (HJU.out (by omega) _).mono ?_
          rintro e w9 ⟨C2, rfl, hC2, h9⟩
          have M9 := Lib.hid (M8.out.keep h9)
          have HTX := Lib.hid hC2
          clear h9 hC2
          go_wp2_with (first | (show wpList _ _ _ ((⟨_, Op.store 44 _ _, _, _, _, _⟩ : Oper) :: _) _ _; refine Mem.go_storeAll 44 rfl rfl rfl rfl 2 M9.out rfl (by rw [wA_size, HTX.out.len]; exact sCpu) (by rw [wA_size, HTX.out.len]; rfl) (wA_one _) ?_; intro w10 M10'; have M10 := Lib.hid M10'; clear M10') | (show wpList _ _ _ ((⟨_, Op.store 173 _ _, _, _, _, _⟩ : Oper) :: _) _ _; refine Mem.go_storeAll 173 rfl rfl rfl rfl 1 M10.out rfl (sEff) (rfl) (z4_one) ?_; intro w11 M11'; have M11 := Lib.hid M11'; clear M11'))
          refine bodyPost_ret (res_cc Tryz.results93 rfl rfl (load_w (by rw [wA_size, HTX.out.len]) (M11.out.blk 2 rfl)) (load_eff (M11.out.blk 1 rfl))) rfl ?_
          exact ⟨_, _, _, _, _, _, rfl, HTX.out, HL2.out, M11.out.rest.rest.rest.rest, by decide, by decide, ⟨by decide, by decide⟩, (fun h => h.elim)⟩
        · have z56 : ¬ (56 : Int) ≤ op := by omega
          have z40 : ¬ (40 : Int) ≤ op := by omega
          have z32 : (32 : Int) ≤ op := by omega
          go_wp2_with (first | (show wpList _ _ _ ((⟨_, Op.load 44 _, _, _, _, _⟩ : Oper) :: _) _ _; refine Mem.go_loadAll 44 rfl rfl rfl 3 M8.out rfl uCpu (by rw [HZ.out]; exact sCpu) ?_) | (show wpList _ _ _ ((⟨_, Op.load 123 _, _, _, _, _⟩ : Oper) :: _) _ _; refine Mem.go_loadAll 123 rfl rfl rfl 0 M8.out rfl uIns (exact sIns) ?_))
          refine (HXF.out (by omega) L2 _ HL2.out _ M8.out.up4).mono ?_
          rintro e w9 ⟨C2, L3, rfl, hC2, hL3, h9⟩
          have M9 := Lib.hid h9.dn4
          have HTX := Lib.hid hC2
          have HL3 := Lib.hid hL3
          clear h9 hC2 hL3
          go_wp2_with (first | (show wpList _ _ _ ((⟨_, Op.store 44 _ _, _, _, _, _⟩ : Oper) :: _) _ _; refine Mem.go_storeAll 44 rfl rfl rfl rfl 2 M9.out rfl (by rw [wA_size, HTX.out.len]; exact sCpu) (by rw [wA_size, HTX.out.len]; rfl) (wA_one _) ?_; intro w10 M10'; have M10 := Lib.hid M10'; clear M10') | (show wpList _ _ _ ((⟨_, Op.store 173 _ _, _, _, _, _⟩ : Oper) :: _) _ _; refine Mem.go_storeAll 173 rfl rfl rfl rfl 1 M10.out rfl (sEff) (rfl) (z4_one) ?_; intro w11 M11'; have M11 := Lib.hid M11'; clear M11'))
          refine bodyPost_ret (res_cc Tryz.results93 rfl rfl (load_w (by rw [wA_size, HTX.out.len]) (M11.out.blk 2 rfl)) (load_eff (M11.out.blk 1 rfl))) rfl ?_
          exact ⟨_, _, _, _, _, _, rfl, HTX.out, HL3.out, M11.out.rest.rest.rest.rest, by decide, by decide, ⟨by decide, by decide⟩, (fun h => h.elim)⟩
        · subst ho
          go_wp2_with (show wpList _ _ _ ((⟨_, Op.load 44 _, _, _, _, _⟩ : Oper) :: _) _ _; refine Mem.go_loadAll 44 rfl rfl rfl 3 M8.out rfl uCpu (by rw [HZ.out]; exact sCpu) ?_)
          refine (HST.out _ (by first | exact mod_wd _ | exact wrap_wd _ | exact bits_wd _ _ _ | assumption) _).mono ?_
          rintro e w10 ⟨rfl, h10, hok⟩
          have HOKS := Lib.hid hok
          have K1 := Lib.hid (M8.out.keep h10)
          clear h10 hok
          obtain ⟨⟨u0, u1, u2, u3, u4⟩, _, _⟩ := K1.out.box5 0 rfl
          generalize setR C a _ = T at *
          go_upto_region 23 with (show wpList _ _ _ ((⟨_, Op.store 44 _ _, _, _, _, _⟩ : Oper) :: _) _ _; refine Mem.go_storeAll 44 rfl rfl rfl rfl 3 K1.out rfl (by rw [wA_size, HOKS.out.len]; exact sCpu) (by rw [wA_size, HOKS.out.len, HZ.out]) (wA_one _) ?_; intro w11 K2'; have K2 := Lib.hid K2'; clear K2')
          simp only [List.set_cons_zero, List.set_cons_succ] at K2
          have g16 := K2.out.cell 3 rfl 16 (wA_at (by rw [HOKS.out.len]; decide))
          have f16 := K2.out.free 3 rfl 16
          obtain ⟨p, hp2⟩ : ∃ p, T.getD 16 0 = p := ⟨_, rfl⟩
          rw [hp2] at g16
          clear hp2
          have N1' := K2.out.put 3 rfl 16 (.int .u32 ((p + 4) % 4294967296))
          rw [wA_set] at N1'
          simp only [List.set_cons_zero, List.set_cons_succ] at N1'
          have N1 := Lib.hid N1'
          clear N1'
          have HOKN := Lib.hid (HOKS.out.set (j := 16) (v := (p + 4) % 4294967296) (mod_wd _))
          go_upto_region 24 with fail
          go_wp2_with (first | (show wpList _ _ _ ((⟨_, Op.load 44 _, _, _, _, _⟩ : Oper) :: _) _ _; refine Mem.go_loadAll 44 rfl rfl rfl 3 N1.out rfl uCpu (by rw [wA_size, HOKN.out.len]; exact sCpu) ?_) | (show wpList _ _ _ ((⟨_, Op.store 44 _ _, _, _, _, _⟩ : Oper) :: _) _ _; refine Mem.go_storeAll 44 rfl rfl rfl rfl 2 N1.out rfl (by rw [wA_size, HOKN.out.len]; exact sCpu) (by rw [wA_size, HOKN.out.len]; rfl) (wA_one _) ?_; intro w12 N2'; have N2 := Lib.hid N2'; clear N2') | (show wpList _ _ _ ((⟨_, Op.store 173 _ _, _, _, _, _⟩ : Oper) :: _) _ _; refine Mem.go_storeAll 173 rfl rfl rfl rfl 1 N2.out rfl (sEff) (rfl) (z4_one) ?_; intro w13 N3'; have N3 := Lib.hid N3'; clear N3'))
          refine bodyPost_ret (res_cc Tryz.results93 rfl rfl (load_w (by rw [wA_size, HOKN.out.len]) (N3.out.blk 2 rfl)) (load_eff (N3.out.blk 1 rfl))) rfl ?_
          exact ⟨_, _, _, _, _, _, rfl, HOKN.out, HL2.out, N3.out.rest.rest.rest.rest, by decide, by decide, ⟨by decide, by decide⟩, (fun h => h.elim)⟩
        · have z56 : ¬ (56 : Int) ≤ op := by omega
          have z40 : ¬ (40 : Int) ≤ op := by omega
          have z32 : ¬ (32 : Int) ≤ op := by omega
          have z24 : ((op : Int) == 24) = false := by rw [beq_eq_false_iff_ne]; omega
          have HAL := Lib.hid fun y hy w => alu_any op xb y ho HB.out.1 hy w
          unfold AluSome at HAL
          have k2 := M8.out.cell 3 rfl c cc
          by_cases h13 : op ≤ 13
          · have z13 : (op : Int) ≤ 13 := by omega
            go_upto_region 13 with fail
            refine Tl.start 14 (fun w' => w'.cell? ⟨w.heap.size, b, none⟩ = some (.int .u32 xb) ∧ w'.cell? ⟨w7.heap.size, 0, none⟩ = some (.int .i64 (op : Int)) ∧ w'.cell? ⟨w7.heap.size, 2, none⟩ = some (.int .i64 (b : Int))) (by kernel_rfl) (⟨M8.out.drew.cell 3 rfl b cb, M8.out.drew.cell 0 rfl 0 rfl, M8.out.drew.cell 0 rfl 2 rfl⟩) (fun hHeld => ?_)
            refine Tl.tf 0 (⟨some 74, .fieldAddr 123 (.tmp 10) 0, 0, "cpu.go:485", #[], none⟩ : Oper) ?v1 rfl ?hy1 (by assumption) ?_
            case hy1 => (intro w; go_simp; all_goals (with_reducible rfl))
            try simp only [Act.put, Tl.p2, Tl.p3, Tl.p4]
            refine Tl.tk 1 (⟨some 75, .load 3 (.tmp 74), 3, "cpu.go:485", #[⟨0, .data⟩], none⟩ : Oper) ?v2 rfl ?hy2 (by assumption) ?_
            case hy2 => (intro w hSw; (try dsimp only at hSw); go_simp; all_goals (with_reducible rfl))
            try simp only [Act.put, Tl.p2, Tl.p3, Tl.p4]
            refine Tl.tf 2 (⟨some 76, .fieldAddr 123 (.tmp 10) 2, 0, "cpu.go:485", #[], none⟩ : Oper) ?v3 rfl ?hy3 (by assumption) ?_
            case hy3 => (intro w; go_simp; all_goals (with_reducible rfl))
            try simp only [Act.put, Tl.p2, Tl.p3, Tl.p4]
            refine Tl.tk 3 (⟨some 77, .load 3 (.tmp 76), 3, "cpu.go:485", #[⟨2, .data⟩], none⟩ : Oper) ?v4 rfl ?hy4 (by assumption) ?_
            case hy4 => (intro w hSw; (try dsimp only at hSw); go_simp; all_goals (with_reducible rfl))
            try simp only [Act.put, Tl.p2, Tl.p3, Tl.p4]
            refine Tl.tf 4 (⟨some 78, .fieldAddr 44 (.tmp 2) 0, 0, "cpu.go:485", #[], none⟩ : Oper) ?v5 rfl ?hy5 (by assumption) ?_
            case hy5 => (intro w; go_simp; all_goals (with_reducible rfl))
            try simp only [Act.put, Tl.p2, Tl.p3, Tl.p4]
            refine Tl.tf 5 (⟨some 79, .indexAddr 41 (.tmp 78) (.tmp 77), 0, "cpu.go:485", #[⟨4, .data⟩, ⟨3, .data⟩], none⟩ : Oper) ?v6 rfl ?hy6 (by assumption) ?_
            case hy6 => (intro w; go_simp; all_goals (with_reducible rfl))
            try simp only [Act.put, Tl.p2, Tl.p3, Tl.p4]
            refine Tl.tk 6 (⟨some 80, .load 40 (.tmp 79), 40, "cpu.go:485", #[⟨5, .data⟩], none⟩ : Oper) ?v7 rfl ?hy7 (by assumption) ?_
            case hy7 => (intro w hSw; (try dsimp only at hSw); go_simp; all_goals (with_reducible rfl))
            try simp only [Act.put, Tl.p2, Tl.p3, Tl.p4]
            refine Tl.tf 7 (⟨some 81, .move (.tmp 12), 40, "cpu.go:485", #[], none⟩ : Oper) ?v8 rfl ?hy8 (by assumption) ?_
            case hy8 => (intro w; go_simp; all_goals (with_reducible rfl))
            try simp only [Act.put, Tl.p2, Tl.p3, Tl.p4]
            refine Tl.step (i := 8) (o := (⟨some 82, .call { callee := .value (.func 121), args := #[.tmp 75, .tmp 80, .tmp 81], argTypes := #[3, 40, 40] }, 119, "cpu.go:485", #[⟨1, .data⟩, ⟨6, .data⟩, ⟨7, .data⟩], none⟩ : Oper)) (by kernel_rfl) rfl (fun K hK => ?_)
            go_simp
            go_at_call 121
            refine (HAL.out _ HB.out.2 _).mono ?_
            rintro e w9 ⟨z, bz, rfl, hz, h9⟩
            have M9 := Lib.hid (M8.out.drew.keep h9)
            clear h9
            dsimp only
            refine hK.out _ _ (⟨M9.out.cell 3 rfl b cb, M9.out.cell 0 rfl 0 rfl, M9.out.cell 0 rfl 2 rfl⟩) (fun hHeld => ?_)
            clear hK K
            try simp only [Act.put, Tl.p2, Tl.p3, Tl.p4]
            refine Tl.tf 9 (⟨some 73, .move (.tmp 82), 119, "cpu.go:485", #[⟨8, .data⟩], none⟩ : Oper) ?v9 rfl ?hy9 (by assumption) ?_
            case hy9 => (intro w; go_simp; all_goals (with_reducible rfl))
            try simp only [Act.put, Tl.p2, Tl.p3, Tl.p4]
            refine Tl.tf 10 (⟨some 83, .extract (.tmp 73) 0, 40, "cpu.go:485", #[⟨9, .data⟩], none⟩ : Oper) ?v10 rfl ?hy10 (by assumption) ?_
            case hy10 => (intro w; go_simp; all_goals (with_reducible rfl))
            try simp only [Act.put, Tl.p2, Tl.p3, Tl.p4]
            refine Tl.tf 11 (⟨some 84, .extract (.tmp 73) 1, 4, "cpu.go:485", #[⟨9, .data⟩, ⟨12, .gcOnly .lateStores⟩], none⟩ : Oper) ?v11 rfl ?hy11 (by assumption) ?_
            case hy11 => (intro w; go_simp; all_goals (with_reducible rfl))
            try simp only [Act.put, Tl.p2, Tl.p3, Tl.p4]
            refine Tl.tf 12 (⟨some 13, .assign (.tmp 83), 40, "cpu.go:485", #[⟨10, .data⟩, ⟨8, .chain⟩, ⟨0, .phase⟩, ⟨1, .phase⟩, ⟨2, .phase⟩, ⟨3, .phase⟩, ⟨4, .phase⟩, ⟨5, .phase⟩, ⟨6, .phase⟩, ⟨7, .phase⟩, ⟨8, .phase⟩, ⟨9, .phase⟩, ⟨10, .phase⟩, ⟨11, .textOnly .lateStores⟩], none⟩ : Oper) ?v12 rfl ?hy12 (by assumption) ?_
            case hy12 => (intro w; go_simp; all_goals (with_reducible rfl))
            try simp only [Act.put, Tl.p2, Tl.p3, Tl.p4]
            refine Tl.tf 13 (⟨some 14, .assign (.tmp 84), 4, "cpu.go:485", #[⟨11, .data⟩, ⟨12, .chain⟩, ⟨0, .phase⟩, ⟨1, .phase⟩, ⟨2, .phase⟩, ⟨3, .phase⟩, ⟨4, .phase⟩, ⟨5, .phase⟩, ⟨6, .phase⟩, ⟨7, .phase⟩, ⟨8, .phase⟩, ⟨9, .phase⟩, ⟨10, .phase⟩, ⟨11, .phase⟩, ⟨12, .phase⟩], none⟩ : Oper) ?v13 rfl ?hy13 (by assumption) ?_
            case hy13 => (intro w; go_simp; all_goals (with_reducible rfl))
            try simp only [Act.put, Tl.p2, Tl.p3, Tl.p4]
            refine Tl.done (by kernel_rfl) ?_ _
            clear u0 u1 u2 u3 u4
            obtain ⟨⟨u0, u1, u2, u3, u4⟩, _, _⟩ := M9.out.box5 0 rfl
            go_wp2_with (show wpList _ _ _ ((⟨_, Op.load 44 _, _, _, _, _⟩ : Oper) :: _) _ _; refine Mem.go_loadAll 44 rfl rfl rfl 3 M9.out rfl uCpu (by rw [HZ.out]; exact sCpu) ?_)
            refine (HST.out _ (by first | exact mod_wd _ | exact wrap_wd _ | exact bits_wd _ _ _ | assumption) _).mono ?_
            rintro e w10 ⟨rfl, h10, hok⟩
            have HOKS := Lib.hid hok
            have K1 := Lib.hid (M9.out.keep h10)
            clear h10 hok
            obtain ⟨⟨u0, u1, u2, u3, u4⟩, _, _⟩ := K1.out.box5 0 rfl
            generalize setR C a _ = T at *
            go_upto_region 23 with (show wpList _ _ _ ((⟨_, Op.store 44 _ _, _, _, _, _⟩ : Oper) :: _) _ _; refine Mem.go_storeAll 44 rfl rfl rfl rfl 3 K1.out rfl (by rw [wA_size, HOKS.out.len]; exact sCpu) (by rw [wA_size, HOKS.out.len, HZ.out]) (wA_one _) ?_; intro w11 K2'; have K2 := Lib.hid K2'; clear K2')
            simp only [List.set_cons_zero, List.set_cons_succ] at K2
            have g16 := K2.out.cell 3 rfl 16 (wA_at (by rw [HOKS.out.len]; decide))
            have f16 := K2.out.free 3 rfl 16
            obtain ⟨p, hp2⟩ : ∃ p, T.getD 16 0 = p := ⟨_, rfl⟩
            rw [hp2] at g16
            clear hp2
            have N1' := K2.out.put 3 rfl 16 (.int .u32 ((p + 4) % 4294967296))
            rw [wA_set] at N1'
            simp only [List.set_cons_zero, List.set_cons_succ] at N1'
            have N1 := Lib.hid N1'
            clear N1'
            have HOKN := Lib.hid (HOKS.out.set (j := 16) (v := (p + 4) % 4294967296) (mod_wd _))
            go_upto_region 24 with fail
            go_wp2_with (first | (show wpList _ _ _ ((⟨_, Op.load 44 _, _, _, _, _⟩ : Oper) :: _) _ _; refine Mem.go_loadAll 44 rfl rfl rfl 3 N1.out rfl uCpu (by rw [wA_size, HOKN.out.len]; exact sCpu) ?_) | (show wpList _ _ _ ((⟨_, Op.store 44 _ _, _, _, _, _⟩ : Oper) :: _) _ _; refine Mem.go_storeAll 44 rfl rfl rfl rfl 2 N1.out rfl (by rw [wA_size, HOKN.out.len]; exact sCpu) (by rw [wA_size, HOKN.out.len]; rfl) (wA_one _) ?_; intro w12 N2'; have N2 := Lib.hid N2'; clear N2') | (show wpList _ _ _ ((⟨_, Op.store 173 _ _, _, _, _, _⟩ : Oper) :: _) _ _; refine Mem.go_storeAll 173 rfl rfl rfl rfl 1 N2.out rfl (sEff) (rfl) (z4_one) ?_; intro w13 N3'; have N3 := Lib.hid N3'; clear N3'))
            refine bodyPost_ret (res_cc Tryz.results93 rfl rfl (load_w (by rw [wA_size, HOKN.out.len]) (N3.out.blk 2 rfl)) (load_eff (N3.out.blk 1 rfl))) rfl ?_
            exact ⟨_, _, _, _, _, _, rfl, HOKN.out, HL2.out, N3.out.rest.rest.rest.rest, by decide, by decide, ⟨by decide, by decide⟩, (fun h => h.elim)⟩
          · have z13 : ¬ (op : Int) ≤ 13 := by omega
            go_upto_region 13 with fail
            refine Tl.start 14 (fun w' => w'.cell? ⟨w.heap.size, b, none⟩ = some (.int .u32 xb) ∧ w'.cell? ⟨w7.heap.size, 0, none⟩ = some (.int .i64 (op : Int)) ∧ w'.cell? ⟨w7.heap.size, 2, none⟩ = some (.int .i64 (b : Int))) (by kernel_rfl) (⟨M8.out.drew.cell 3 rfl b cb, M8.out.drew.cell 0 rfl 0 rfl, M8.out.drew.cell 0 rfl 2 rfl⟩) (fun hHeld => ?_)
            refine Tl.tf 0 (⟨some 74, .fieldAddr 123 (.tmp 10) 0, 0, "cpu.go:485", #[], none⟩ : Oper) ?v14 rfl ?hy14 (by assumption) ?_
            case hy14 => (intro w; go_simp; all_goals (with_reducible rfl))
            try simp only [Act.put, Tl.p2, Tl.p3, Tl.p4]
            refine Tl.tk 1 (⟨some 75, .load 3 (.tmp 74), 3, "cpu.go:485", #[⟨0, .data⟩], none⟩ : Oper) ?v15 rfl ?hy15 (by assumption) ?_
            case hy15 => (intro w hSw; (try dsimp only at hSw); go_simp; all_goals (with_reducible rfl))
            try simp only [Act.put, Tl.p2, Tl.p3, Tl.p4]
            refine Tl.tf 2 (⟨some 76, .fieldAddr 123 (.tmp 10) 2, 0, "cpu.go:485", #[], none⟩ : Oper) ?v16 rfl ?hy16 (by assumption) ?_
            case hy16 => (intro w; go_simp; all_goals (with_reducible rfl))
            try simp only [Act.put, Tl.p2, Tl.p3, Tl.p4]
            refine Tl.tk 3 (⟨some 77, .load 3 (.tmp 76), 3, "cpu.go:485", #[⟨2, .data⟩], none⟩ : Oper) ?v17 rfl ?hy17 (by assumption) ?_
            case hy17 => (intro w hSw; (try dsimp only at hSw); go_simp; all_goals (with_reducible rfl))
            try simp only [Act.put, Tl.p2, Tl.p3, Tl.p4]
            refine Tl.tf 4 (⟨some 78, .fieldAddr 44 (.tmp 2) 0, 0, "cpu.go:485", #[], none⟩ : Oper) ?v18 rfl ?hy18 (by assumption) ?_
            case hy18 => (intro w; go_simp; all_goals (with_reducible rfl))
            try simp only [Act.put, Tl.p2, Tl.p3, Tl.p4]
            refine Tl.tf 5 (⟨some 79, .indexAddr 41 (.tmp 78) (.tmp 77), 0, "cpu.go:485", #[⟨4, .data⟩, ⟨3, .data⟩], none⟩ : Oper) ?v19 rfl ?hy19 (by assumption) ?_
            case hy19 => (intro w; go_simp; all_goals (with_reducible rfl))
            try simp only [Act.put, Tl.p2, Tl.p3, Tl.p4]
            refine Tl.tk 6 (⟨some 80, .load 40 (.tmp 79), 40, "cpu.go:485", #[⟨5, .data⟩], none⟩ : Oper) ?v20 rfl ?hy20 (by assumption) ?_
            case hy20 => (intro w hSw; (try dsimp only at hSw); go_simp; all_goals (with_reducible rfl))
            try simp only [Act.put, Tl.p2, Tl.p3, Tl.p4]
            refine Tl.tf 7 (⟨some 81, .move (.tmp 12), 40, "cpu.go:485", #[], none⟩ : Oper) ?v21 rfl ?hy21 (by assumption) ?_
            case hy21 => (intro w; go_simp; all_goals (with_reducible rfl))
            try simp only [Act.put, Tl.p2, Tl.p3, Tl.p4]
            refine Tl.step (i := 8) (o := (⟨some 82, .call { callee := .value (.func 121), args := #[.tmp 75, .tmp 80, .tmp 81], argTypes := #[3, 40, 40] }, 119, "cpu.go:485", #[⟨1, .data⟩, ⟨6, .data⟩, ⟨7, .data⟩], none⟩ : Oper)) (by kernel_rfl) rfl (fun K hK => ?_)
            go_simp
            go_at_call 121
            refine (HAL.out _ (mod_wd _) _).mono ?_
            rintro e w9 ⟨z, bz, rfl, hz, h9⟩
            have M9 := Lib.hid (M8.out.drew.keep h9)
            clear h9
            dsimp only
            refine hK.out _ _ (⟨M9.out.cell 3 rfl b cb, M9.out.cell 0 rfl 0 rfl, M9.out.cell 0 rfl 2 rfl⟩) (fun hHeld => ?_)
            clear hK K
            try simp only [Act.put, Tl.p2, Tl.p3, Tl.p4]
            refine Tl.tf 9 (⟨some 73, .move (.tmp 82), 119, "cpu.go:485", #[⟨8, .data⟩], none⟩ : Oper) ?v22 rfl ?hy22 (by assumption) ?_
            case hy22 => (intro w; go_simp; all_goals (with_reducible rfl))
            try simp only [Act.put, Tl.p2, Tl.p3, Tl.p4]
            refine Tl.tf 10 (⟨some 83, .extract (.tmp 73) 0, 40, "cpu.go:485", #[⟨9, .data⟩], none⟩ : Oper) ?v23 rfl ?hy23 (by assumption) ?_
            case hy23 => (intro w; go_simp; all_goals (with_reducible rfl))
            try simp only [Act.put, Tl.p2, Tl.p3, Tl.p4]
            refine Tl.tf 11 (⟨some 84, .extract (.tmp 73) 1, 4, "cpu.go:485", #[⟨9, .data⟩, ⟨12, .gcOnly .lateStores⟩], none⟩ : Oper) ?v24 rfl ?hy24 (by assumption) ?_
            case hy24 => (intro w; go_simp; all_goals (with_reducible rfl))
            try simp only [Act.put, Tl.p2, Tl.p3, Tl.p4]
            refine Tl.tf 12 (⟨some 13, .assign (.tmp 83), 40, "cpu.go:485", #[⟨10, .data⟩, ⟨8, .chain⟩, ⟨0, .phase⟩, ⟨1, .phase⟩, ⟨2, .phase⟩, ⟨3, .phase⟩, ⟨4, .phase⟩, ⟨5, .phase⟩, ⟨6, .phase⟩, ⟨7, .phase⟩, ⟨8, .phase⟩, ⟨9, .phase⟩, ⟨10, .phase⟩, ⟨11, .textOnly .lateStores⟩], none⟩ : Oper) ?v25 rfl ?hy25 (by assumption) ?_
            case hy25 => (intro w; go_simp; all_goals (with_reducible rfl))
            try simp only [Act.put, Tl.p2, Tl.p3, Tl.p4]
            refine Tl.tf 13 (⟨some 14, .assign (.tmp 84), 4, "cpu.go:485", #[⟨11, .data⟩, ⟨12, .chain⟩, ⟨0, .phase⟩, ⟨1, .phase⟩, ⟨2, .phase⟩, ⟨3, .phase⟩, ⟨4, .phase⟩, ⟨5, .phase⟩, ⟨6, .phase⟩, ⟨7, .phase⟩, ⟨8, .phase⟩, ⟨9, .phase⟩, ⟨10, .phase⟩, ⟨11, .phase⟩, ⟨12, .phase⟩], none⟩ : Oper) ?v26 rfl ?hy26 (by assumption) ?_
            case hy26 => (intro w; go_simp; all_goals (with_reducible rfl))
            try simp only [Act.put, Tl.p2, Tl.p3, Tl.p4]
            refine Tl.done (by kernel_rfl) ?_ _
            clear u0 u1 u2 u3 u4
            obtain ⟨⟨u0, u1, u2, u3, u4⟩, _, _⟩ := M9.out.box5 0 rfl
            go_wp2_with (show wpList _ _ _ ((⟨_, Op.load 44 _, _, _, _, _⟩ : Oper) :: _) _ _; refine Mem.go_loadAll 44 rfl rfl rfl 3 M9.out rfl uCpu (by rw [HZ.out]; exact sCpu) ?_)
            refine (HST.out _ (by first | exact mod_wd _ | exact wrap_wd _ | exact bits_wd _ _ _ | assumption) _).mono ?_
            rintro e w10 ⟨rfl, h10, hok⟩
            have HOKS := Lib.hid hok
            have K1 := Lib.hid (M9.out.keep h10)
            clear h10 hok
            obtain ⟨⟨u0, u1, u2, u3, u4⟩, _, _⟩ := K1.out.box5 0 rfl
            generalize setR C a _ = T at *
            go_upto_region 23 with (show wpList _ _ _ ((⟨_, Op.store 44 _ _, _, _, _, _⟩ : Oper) :: _) _ _; refine Mem.go_storeAll 44 rfl rfl rfl rfl 3 K1.out rfl (by rw [wA_size, HOKS.out.len]; exact sCpu) (by rw [wA_size, HOKS.out.len, HZ.out]) (wA_one _) ?_; intro w11 K2'; have K2 := Lib.hid K2'; clear K2')
            simp only [List.set_cons_zero, List.set_cons_succ] at K2
            have g16 := K2.out.cell 3 rfl 16 (wA_at (by rw [HOKS.out.len]; decide))
            have f16 := K2.out.free 3 rfl 16
            obtain ⟨p, hp2⟩ : ∃ p, T.getD 16 0 = p := ⟨_, rfl⟩
            rw [hp2] at g16
            clear hp2
            have N1' := K2.out.put 3 rfl 16 (.int .u32 ((p + 4) % 4294967296))
            rw [wA_set] at N1'
            simp only [List.set_cons_zero, List.set_cons_succ] at N1'
            have N1 := Lib.hid N1'
            clear N1'
            have HOKN := Lib.hid (HOKS.out.set (j := 16) (v := (p + 4) % 4294967296) (mod_wd _))
            go_upto_region 24 with fail
            go_wp2_with (first | (show wpList _ _ _ ((⟨_, Op.load 44 _, _, _, _, _⟩ : Oper) :: _) _ _; refine Mem.go_loadAll 44 rfl rfl rfl 3 N1.out rfl uCpu (by rw [wA_size, HOKN.out.len]; exact sCpu) ?_) | (show wpList _ _ _ ((⟨_, Op.store 44 _ _, _, _, _, _⟩ : Oper) :: _) _ _; refine Mem.go_storeAll 44 rfl rfl rfl rfl 2 N1.out rfl (by rw [wA_size, HOKN.out.len]; exact sCpu) (by rw [wA_size, HOKN.out.len]; rfl) (wA_one _) ?_; intro w12 N2'; have N2 := Lib.hid N2'; clear N2') | (show wpList _ _ _ ((⟨_, Op.store 173 _ _, _, _, _, _⟩ : Oper) :: _) _ _; refine Mem.go_storeAll 173 rfl rfl rfl rfl 1 N2.out rfl (sEff) (rfl) (z4_one) ?_; intro w13 N3'; have N3 := Lib.hid N3'; clear N3'))
            refine bodyPost_ret (res_cc Tryz.results93 rfl rfl (load_w (by rw [wA_size, HOKN.out.len]) (N3.out.blk 2 rfl)) (load_eff (N3.out.blk 1 rfl))) rfl ?_
            exact ⟨_, _, _, _, _, _, rfl, HOKN.out, HL2.out, N3.out.rest.rest.rest.rest, by decide, by decide, ⟨by decide, by decide⟩, (fun h => h.elim)⟩
  · have zc : (ca2 == 0) = false := by rw [beq_eq_false_iff_ne]; exact hc0
    have HTO2 := Lib.hid (HTO.out ca2 (pc : Int) ⟨hca0, hca1⟩ ⟨by omega, by omega⟩)
    go_wp2_with (show wpList _ _ _ ((⟨_, Op.load 44 _, _, _, _, _⟩ : Oper) :: _) _ _; refine Mem.go_loadAll 44 rfl rfl rfl 2 M5.out rfl uCpu (by rw [HZ.out]; exact sCpu) ?_)
    refine (HTR.out ca2 _ ⟨hca0, hca1⟩ _).mono ?_
    rintro e w6 ⟨rfl, h6⟩
    have M6 := Lib.hid (M5.out.keep h6)
    clear h6
    go_wp2_with (first | (show wpList _ _ _ ((⟨_, Op.store 44 _ _, _, _, _, _⟩ : Oper) :: _) _ _; refine Mem.go_storeAll 44 rfl rfl rfl rfl 1 M6.out rfl (by rw [wA_size, HTO2.out.len]; exact sCpu) (by rw [wA_size, HTO2.out.len]; rfl) (wA_one _) ?_; intro w7 M7'; have M7 := Lib.hid M7'; clear M7') | (show wpList _ _ _ ((⟨_, Op.store 173 _ _, _, _, _, _⟩ : Oper) :: _) _ _; refine Mem.go_storeAll 173 rfl rfl rfl rfl 0 M7.out rfl (sEff) (rfl) (z4_one) ?_; intro w8 M8'; have M8 := Lib.hid M8'; clear M8'))
    refine bodyPost_ret (res_cc Tryz.results93 rfl rfl (load_w (by rw [wA_size, HTO2.out.len]) (M8.out.blk 1 rfl)) (load_eff (M8.out.blk 0 rfl))) rfl ?_
    exact ⟨_, _, _, _, _, _, rfl, HTO2.out, HL2.out, M8.out.rest.rest.rest, by decide, by decide, ⟨by decide, by decide⟩, (fun h => h.elim)⟩
theorem and_pg {st : Int} (h : Wd st) (hk : (bits .and .u32 st 1 == 0) = false) : (bits .and .u32 st 5 == 4) = false := by
  obtain ⟨n, rfl, hn⟩ := wd_nat h
  have h1 := u32_and_nat n 1 hn (by decide)
  have h5 := u32_and_nat n 5 hn (by decide)
  rw [show ((1 : Nat) : Int) = 1 from rfl] at h1
  rw [show ((5 : Nat) : Int) = 5 from rfl] at h5
  rw [h1, beq_eq_false_iff_ne] at hk
  rw [h5, beq_eq_false_iff_ne]
  intro e
  have e2 : n &&& 5 = 4 := by omega
  have e3 : n &&& 5 &&& 1 = n &&& 1 := by rw [Nat.and_assoc]; rfl
  rw [e2] at e3
  have e4 : n &&& 1 = 0 := e3.symm
  exact hk (by rw [e4]; rfl)
/-- The next instruction is an 'in', in kernel mode. -/
structure InNext (C L : List Int) : Prop where
  kern : (bits .and .u32 (C.getD 17 0) 1 == 0) = false
  within : inM (C.getD 16 0).toNat 4 = true
  ins : ∃ x, dec (L.getD ((C.getD 16 0).toNat / 4) 0).toNat = some x ∧ x.op = 60
set_option maxHeartbeats 4000000 in
theorem do_in (W : World) (g cap : Nat) (C L : List Int) (F : List Ck) (hR : InNext C L) (hC : CpuOK C) (hL : MemOK L) (w : World) (hM : Mem W w (memR W.heap.size g cap L :: F)) :
    Calls Tryz.prog 93 #[.agg (wA C), .slice (some ⟨g, 0, none⟩) 256 cap] w (DoTo True W g cap F) := by
  obtain ⟨hkern, hwith, ⟨op, a, b, c, i⟩, hdx, hop⟩ := hR
  dsimp only at hop
  subst hop
  have c16 := wA_at (L := C) (j := 16) (by rw [hC.len]; decide)
  have c17 := wA_at (L := C) (j := 17) (by rw [hC.len]; decide)
  obtain ⟨pc, hpc, hpc2⟩ := wd_nat (hC.at_ 16)
  rw [hpc] at c16
  have zpc : (pc : Int) ≤ 4294967295 := by omega
  obtain ⟨st, hst⟩ : ∃ st, C.getD 17 0 = st := ⟨_, rfl⟩
  rw [hst] at c17
  have hcap := memCap hM
  rw [hst] at hkern
  have hpcn : (C.getD 16 0).toNat = pc := by rw [hpc]; rfl
  rw [hpcn] at hwith hdx
  obtain ⟨n, hn0, hn⟩ := wd_nat (Wds.getD hL.bd (pc / 4))
  have hnn : (L.getD (pc / 4) 0).toNat = n := by rw [hn0]; rfl
  rw [hnn] at hdx
  have hvx : validI ⟨60, a, b, c, i⟩ = true := by
    unfold dec at hdx
    split at hdx
    · cases hdx
    · split at hdx
      · rename_i hh; injection hdx with hdx; rw [← hdx]; exact hh
      · cases hdx
  have HPG : (bits .and .u32 (C.getD 17 0) 5 == 4) = false := by rw [hst]; exact and_pg (by rw [← hst]; exact hC.at_ 17) hkern
  have HR := Lib.hid fun (F' : List Ck) (w' : World) (h : Mem W w' (memR W.heap.size g cap L :: F')) => reach_k W g cap pc C L F' hpc2 hwith HPG hC w' h
  have HLD := Lib.hid fun (w' : World) (h : Sl 1 uC w' (some ⟨g, 0, none⟩) 256 L) => load4 (some ⟨g, 0, none⟩) cap pc L hpc2 hcap w' h
  rw [hwith, if_pos rfl, hn0] at HLD
  unfold LdTo at HLD
  clear HPG hnn hn0
  have HDE := Lib.hid fun w => decode_any n hn w
  unfold DecTo at HDE
  rw [hdx] at HDE
  have HSY := Lib.hid fun w => system_any ⟨60, a, b, c, i⟩ hvx (show 56 ≤ 60 by decide) C hC w
  unfold EffTo at HSY
  dsimp only at HSY
  rw [if_pos rfl] at HSY
  have HPV := Lib.hid fun w => (show Calls Tryz.prog 117 #[.int .i64 60] w (fun e w' => e = .returned (.bool true) ∧ w = w') from privileged_any 60 (by decide) w)
  dsimp only [insO, Option.isSome] at HDE
  clear hdx hvx hwith hpcn hst
  have HOKC := Lib.hid hC
  have HL2 := Lib.hid hL
  have HZ : Is (wA C).size 25 := ⟨by rw [wA_size]; exact hC.len⟩
  have zn : (n : Int) ≤ 4294967295 := by omega
  have M0 := Lib.hid (((hM.allocF (b := w.heap.size) rfl (wA C) 44).allocF (b := w.heap.size + 1) (by simp) z25 44).allocF (b := w.heap.size + 1 + 1) (by simp) z4 173)
  clear hM hC hL
  generalize wA C = cA at *
  unfold DoTo
  go_enter Tryz.func93, Tryz.ntmps93
  go_wp2_with (show wpList _ _ _ ((⟨_, Op.load 44 _, _, _, _, _⟩ : Oper) :: _) _ _; refine Mem.go_loadAll 44 rfl rfl rfl 2 M0.out rfl uCpu (by rw [HZ.out]; exact sCpu) ?_)
  refine (HR.out _ _ M0.out.up3).mono ?_
  rintro e w5 ⟨rfl, h5⟩
  have M5 := Lib.hid h5.dn3
  clear h5 M0
  have d17 := M5.out.cell 2 rfl 17 c17
  go_wp2_with fail
  refine (HLD.out _ (memSl M5.out.up3)).mono ?_
  rintro e w6 ⟨rfl, rfl⟩
  go_wp2_with fail
  refine (HDE.out _).mono ?_
  rintro e w7 ⟨rfl, h7⟩
  have M7 := Lib.hid ((M5.out.keep h7).allocF (b := w7.heap.size) rfl #[.int .i64 60, .int .i64 (a : Int), .int .i64 (b : Int), .int .i64 (c : Int), .int .i32 i] 123)
  clear h7 d17
  obtain ⟨⟨u0, u1, u2, u3, u4⟩, _, _⟩ := M7.out.box5 0 rfl
  go_wp2_with fail
  refine (HPV.out _).mono ?_
  rintro e w8 ⟨rfl, h8⟩
  have M8' := M7.out
  rw [h8] at M8'
  have M8 := Lib.hid M8'
  clear M8' M7 h8 u0 u1 u2 u3 u4
  obtain ⟨⟨u0, u1, u2, u3, u4⟩, _, _⟩ := M8.out.box5 0 rfl
  have e17 := M8.out.cell 3 rfl 17 c17
  go_wp2_with (first | (show wpList _ _ _ ((⟨_, Op.load 44 _, _, _, _, _⟩ : Oper) :: _) _ _; refine Mem.go_loadAll 44 rfl rfl rfl 3 M8.out rfl uCpu (by rw [HZ.out]; exact sCpu) ?_) | (show wpList _ _ _ ((⟨_, Op.load 123 _, _, _, _, _⟩ : Oper) :: _) _ _; refine Mem.go_loadAll 123 rfl rfl rfl 0 M8.out rfl uIns (exact sIns) ?_))
  refine (HSY.out _).mono ?_
  rintro e w9 ⟨C2, k, p, r, v2, rfl, hC2, h9, hk1, hr0, hr1, hv2⟩
  have M9 := Lib.hid (M8.out.keep h9)
  have HTX := Lib.hid hC2
  have HRR := Lib.hid (And.intro hr0 (And.intro hr1 (And.intro hv2 hk1)))
  clear h9 hC2 hr0 hr1 hv2 hk1
  go_wp2_with (first | (show wpList _ _ _ ((⟨_, Op.store 44 _ _, _, _, _, _⟩ : Oper) :: _) _ _; refine Mem.go_storeAll 44 rfl rfl rfl rfl 2 M9.out rfl (by rw [wA_size, HTX.out.len]; exact sCpu) (by rw [wA_size, HTX.out.len]; rfl) (wA_one _) ?_; intro w10 M10'; have M10 := Lib.hid M10'; clear M10') | (show wpList _ _ _ ((⟨_, Op.store 173 _ _, _, _, _, _⟩ : Oper) :: _) _ _; refine Mem.go_storeAll 173 rfl rfl rfl rfl 1 M10.out rfl (news := #[.int .i64 k, .int .i64 p, .int .i64 r, .int .u32 v2]) sEff rfl (by intro v hv; simp at hv; rcases hv with rfl | rfl | rfl | rfl <;> rfl) ?_; intro w11 M11'; have M11 := Lib.hid M11'; clear M11'))
  refine bodyPost_ret (res_cc Tryz.results93 rfl rfl (load_w (by rw [wA_size, HTX.out.len]) (M11.out.blk 2 rfl)) (load_eff (M11.out.blk 1 rfl))) rfl ?_
  exact ⟨_, _, _, _, _, _, rfl, HTX.out, HL2.out, M11.out.rest.rest.rest.rest, HRR.out.1, HRR.out.2.1, HRR.out.2.2.1, (fun _ => HRR.out.2.2.2 1 rfl)⟩
end Ma
end Go.Proofs.YtdacgdokbfcgdaaGreat

namespace Go.Proofs.YtdacgdokbfcgdaaGreat
open Go.RowKit Go.BigFrame Go.Sort Go.Lib
namespace Ma
def BoolHeld (w : World) (e : Ending) (w' : World) : Prop := ∃ b : Bool, e = .returned (.bool b) ∧ Held w w'
def WdHeld (w : World) (e : Ending) (w' : World) : Prop := ∃ z : Int, e = .returned (.int .u32 z) ∧ Wd z ∧ Held w w'
set_option maxHeartbeats 1000000 in
theorem conpend_any (s : ByteArray) (w : World) : Calls Tryz.prog 140 #[.agg #[.string s]] w fun e w' => e = .returned (.bool (decide (0 < s.size))) ∧ Held w w' := by
  go_enter Tryz.func140, Tryz.ntmps140
  go_wp2
  go_ret
  exact ⟨by simp, (Held.refl w).alloc _⟩
set_option maxHeartbeats 1000000 in
theorem conmay_any (s : ByteArray) (w : World) : Calls Tryz.prog 79 #[.agg #[.string s]] w (BoolHeld w) := by
  unfold BoolHeld
  go_enter Tryz.func79, Tryz.ntmps79
  go_wp2
  go_ret
  exact ⟨_, rfl, (Held.refl w).alloc _⟩
set_option maxHeartbeats 1000000 in
theorem arm_any (v : Int) (w : World) : Calls Tryz.prog 127 #[.int .u32 v] w fun e w' => ∃ (a : Bool) (t : Int), e = .returned (.agg #[.bool a, .int .u32 t, .bool false]) ∧ (Wd v → Wd t) ∧ Held w w' := by
  by_cases h : v = 0
  · subst h
    go_enter Tryz.func127, Tryz.ntmps127
    go_wp2
    refine bodyPost_ret (v := .agg #[.bool false, .int .u32 0, .bool false]) (by simp [results, Tryz.results127, go_sem]) rfl ?_
    exact ⟨_, _, rfl, id, (Held.refl w).alloc _⟩
  · have z : (v == 0) = false := by rw [beq_eq_false_iff_ne]; exact h
    go_enter Tryz.func127, Tryz.ntmps127
    go_wp2
    refine bodyPost_ret (v := .agg #[.bool true, .int .u32 v, .bool false]) (by simp [results, Tryz.results127, go_sem]) rfl ?_
    exact ⟨_, _, rfl, id, (Held.refl w).alloc _⟩
set_option maxHeartbeats 1000000 in
theorem fire_any (a f : Bool) (t : Int) (w : World) : Calls Tryz.prog 85 #[.agg #[.bool a, .int .u32 t, .bool f]] w fun e w' => e = .returned (.tuple #[.agg #[.bool false, .int .u32 t, .bool (a || f)], .bool a]) ∧ Held w w' := by
  cases a
  · go_enter Tryz.func85, Tryz.ntmps85
    go_wp2
    refine bodyPost_ret (v := .tuple #[.agg #[.bool false, .int .u32 t, .bool f], .bool false]) (by simp [results, Tryz.results85, go_sem]) rfl ?_
    exact ⟨rfl, ((Held.refl w).alloc _).alloc _⟩
  · go_enter Tryz.func85, Tryz.ntmps85
    go_wp2
    refine bodyPost_ret (v := .tuple #[.agg #[.bool false, .int .u32 t, .bool true], .bool true]) (by simp [results, Tryz.results85, go_sem]) rfl ?_
    exact ⟨rfl, ((Held.refl w).alloc _).alloc _⟩
set_option maxHeartbeats 1000000 in
theorem due_any (a f : Bool) (t now : Int) (w : World) : Calls Tryz.prog 102 #[.agg #[.bool a, .int .u32 t, .bool f], .int .u32 now] w (BoolHeld w) := by
  unfold BoolHeld
  cases a
  · go_enter Tryz.func102, Tryz.ntmps102
    go_wp2
    go_ret
    exact ⟨_, rfl, (Held.refl w).alloc _⟩
  · go_enter Tryz.func102, Tryz.ntmps102
    go_wp2
    go_ret
    exact ⟨_, rfl, (Held.refl w).alloc _⟩
set_option maxHeartbeats 1000000 in
theorem timin_any (a f : Bool) (t : Int) (w : World) : Calls Tryz.prog 123 #[.agg #[.bool a, .int .u32 t, .bool f]] w (WdHeld w) := by
  unfold WdHeld
  cases f <;>
  · go_enter Tryz.func123, Tryz.ntmps123
    go_wp2
    go_ret
    exact ⟨_, rfl, ⟨by decide, by decide⟩, (Held.refl w).alloc _⟩
set_option maxHeartbeats 1000000 in
theorem timpend_any (a f : Bool) (t : Int) (w : World) : Calls Tryz.prog 139 #[.agg #[.bool a, .int .u32 t, .bool f]] w fun e w' => e = .returned (.bool f) ∧ Held w w' := by
  go_enter Tryz.func139, Tryz.ntmps139
  go_wp2
  go_ret
  exact ⟨rfl, (Held.refl w).alloc _⟩
set_option maxHeartbeats 1000000 in
theorem timmay_any (a f : Bool) (t : Int) (w : World) : Calls Tryz.prog 80 #[.agg #[.bool a, .int .u32 t, .bool f]] w (BoolHeld w) := by
  unfold BoolHeld
  cases a <;> cases f <;>
  · go_enter Tryz.func80, Tryz.ntmps80
    go_wp2
    go_ret
    exact ⟨_, rfl, (Held.refl w).alloc _⟩
set_option maxHeartbeats 1000000 in
theorem diskin_any (x0 x1 x2 x3 x4 x5 x6 : Int) (x7 : ByteArray) (p : Int) (h1 : Wd x1) (h2 : Wd x2) (w : World) : Calls Tryz.prog 124 #[.agg #[.int .u32 x0, .int .u32 x1, .int .u32 x2, .int .i64 x3, .int .i64 x4, .int .u32 x5, .int .u32 x6, .string x7], .int .i64 p] w (WdHeld w) := by
  unfold WdHeld
  have H1 := Lib.hid h1
  have H2 := Lib.hid h2
  clear h1 h2
  go_enter Tryz.func124, Tryz.ntmps124
  go_wp2
  all_goals go_ret
  all_goals first
    | exact ⟨_, rfl, H1.out, (Held.refl w).alloc _⟩
    | exact ⟨_, rfl, H2.out, (Held.refl w).alloc _⟩
    | exact ⟨_, rfl, mod_wd _, (Held.refl w).alloc _⟩
    | exact ⟨_, rfl, wrap_wd _, (Held.refl w).alloc _⟩
    | exact ⟨_, rfl, ⟨by decide, by decide⟩, (Held.refl w).alloc _⟩
set_option maxHeartbeats 1000000 in
theorem balin_any (x0 x1 : Int) (p : Int) (h1 : Wd x0) (HG : ∀ w, Calls Tryz.prog 156 #[.agg #[.int .u32 x0, .int .u32 x1]] w (fun e w' => ∃ n : Int, e = .returned (.int .i64 n) ∧ Held w w')) (w : World) :
    Calls Tryz.prog 126 #[.agg #[.int .u32 x0, .int .u32 x1], .int .i64 p] w (WdHeld w) := by
  unfold WdHeld
  have H1 := Lib.hid h1
  have HG := Lib.hid HG
  clear h1
  by_cases hp : p = 10
  · subst hp
    go_enter Tryz.func126, Tryz.ntmps126
    go_wp2
    go_ret
    exact ⟨_, rfl, H1.out, (Held.refl w).alloc _⟩
  · have z : (p == 10) = false := by rw [beq_eq_false_iff_ne]; exact hp
    by_cases hp2 : p = 11
    · subst hp2
      clear hp z
      go_enter Tryz.func126, Tryz.ntmps126
      go_wp2_with fail
      refine (HG.out _).mono ?_
      rintro e w3 ⟨n, rfl, h3⟩
      have H3 := Lib.hid (((Held.refl w).alloc _).step h3)
      clear h3
      go_wp2
      go_ret
      first
        | exact ⟨_, rfl, mod_wd _, H3.out⟩
        | exact ⟨_, rfl, wrap_wd _, H3.out⟩
    · have z2 : (p == 11) = false := by rw [beq_eq_false_iff_ne]; exact hp2
      clear hp hp2
      go_enter Tryz.func126, Tryz.ntmps126
      go_wp2
      go_ret
      exact ⟨_, rfl, ⟨by decide, by decide⟩, (Held.refl w).alloc _⟩
set_option maxHeartbeats 1000000 in
theorem nicin_any (x0 x1 x3 x5 : Int) (x2 x4 : Bool) (p : Int) (h0 : Wd x0) (h5 : Wd x5) (w : World) : Calls Tryz.prog 125 #[.agg #[.int .u32 x0, .int .u32 x1, .bool x2, .int .u32 x3, .bool x4, .int .u32 x5], .int .i64 p] w (WdHeld w) := by
  unfold WdHeld
  have H1 := Lib.hid h0
  have H2 := Lib.hid h5
  clear h0 h5
  cases x2 <;> cases x4 <;>
  · go_enter Tryz.func125, Tryz.ntmps125
    go_wp2
    all_goals go_ret
    all_goals first
      | exact ⟨_, rfl, H1.out, (Held.refl w).alloc _⟩
      | exact ⟨_, rfl, H2.out, (Held.refl w).alloc _⟩
      | exact ⟨_, rfl, ⟨by decide, by decide⟩, (Held.refl w).alloc _⟩
set_option maxHeartbeats 1000000 in
theorem nicpend_any (x0 x1 x3 x5 : Int) (x2 x4 : Bool) (w : World) : Calls Tryz.prog 142 #[.agg #[.int .u32 x0, .int .u32 x1, .bool x2, .int .u32 x3, .bool x4, .int .u32 x5]] w fun e w' => e = .returned (.bool x4) ∧ Held w w' := by
  go_enter Tryz.func142, Tryz.ntmps142
  go_wp2
  go_ret
  exact ⟨rfl, (Held.refl w).alloc _⟩
set_option maxHeartbeats 1000000 in
theorem diskpend_any (x0 x1 x2 x3 x4 x5 x6 : Int) (x7 : ByteArray) (w : World) : Calls Tryz.prog 141 #[.agg #[.int .u32 x0, .int .u32 x1, .int .u32 x2, .int .i64 x3, .int .i64 x4, .int .u32 x5, .int .u32 x6, .string x7]] w fun e w' => e = .returned (.bool (x3 == 2 || x3 == 3)) ∧ Held w w' := by
  by_cases h : x3 = 2
  · subst h
    go_enter Tryz.func141, Tryz.ntmps141
    go_wp2
    go_ret
    exact ⟨rfl, (Held.refl w).alloc _⟩
  · have z : (x3 == 2) = false := by rw [beq_eq_false_iff_ne]; exact h
    go_enter Tryz.func141, Tryz.ntmps141
    go_wp2
    go_ret
    exact ⟨by rw [z]; simp, (Held.refl w).alloc _⟩
set_option maxHeartbeats 1000000 in
theorem page_any (A : Option Addr) (cap f : Nat) (hf : f < 4294967296) (w : World) : Calls Tryz.prog 111 #[.slice A 256 cap, .int .u32 (f : Int)] w fun e w' => e = .returned (.bool (decide (f < 8))) ∧ w = w' := by
  have HP := Lib.hid fun w => pages_any A cap w
  have z : (f : Int) ≤ 4294967295 := by omega
  have z2 : IntKind.u64.wrap (f : Int) = f := IntWalk.u64_in _ ⟨by omega, by omega⟩
  go_enter Tryz.func111, Tryz.ntmps111
  go_wp2_with fail
  refine (HP.out _).mono ?_
  rintro e w3 ⟨rfl, rfl⟩
  go_wp2
  go_ret
  exact ⟨by simp; omega, rfl⟩
end Ma
end Go.Proofs.YtdacgdokbfcgdaaGreat

namespace Go.Proofs.YtdacgdokbfcgdaaGreat
open Go.RowKit Go.BigFrame Go.Sort Go.Lib
namespace Ma
/-- How many pages are given, of the first i. -/
def gvN (g : Int) : Nat → Int
  | 0 => 0
  | i + 1 => gvN g i + bits .and .u32 (g / 2 ^ i) 1
theorem gvN_bd (g : Int) : ∀ i, 0 ≤ gvN g i ∧ gvN g i ≤ i * 4294967295
  | 0 => by simp [gvN]
  | i + 1 => by
    have h := gvN_bd g i
    have h2 := bits_wd .and (g / 2 ^ i) 1
    unfold Wd at h2
    unfold gvN
    constructor
    · omega
    · have : ((i + 1 : Nat) : Int) * 4294967295 = i * 4294967295 + 4294967295 := by push_cast; omega
      omega
set_option maxHeartbeats 2000000 in
theorem given_any (x0 g : Int) (w : World) : Calls Tryz.prog 156 #[.agg #[.int .u32 x0, .int .u32 g]] w fun e w' => e = .returned (.int .i64 (gvN g 32)) ∧ Held w w' := by
  go_enter Tryz.func156, Tryz.ntmps156
  go_wp2
  go_loopw [3, 4] (fun n i wr => ∃ q : Nat, i = .int .i64 (q : Int) ∧ q ≤ 32 ∧ n = .int .i64 (gvN g q) ∧ wr = w.alloc (.cells #[.int .u32 x0, .int .u32 g] 55)) (fun _ i _ => 32 - (RowKit.intOf i).toNat)
  case atStart => exact ⟨0, rfl, by decide, rfl, rfl⟩
  case round =>
    obtain ⟨q, rfl, hq, rfl, rfl⟩ := hrel
    by_cases h : q < 32
    · have y1 : (q : Int) < 32 := by omega
      have y2 : (0 : Int) ≤ q := by omega
      have y3 : IntKind.u64.wrap (q : Int) = q := IntWalk.u64_in _ ⟨by omega, by omega⟩
      have hb := gvN_bd g q
      have hb2 := gvN_bd g (q + 1)
      have hw := bits_wd .and (g / 2 ^ q) 1
      have hs : gvN g q + bits .and .u32 (g / 2 ^ q) 1 = gvN g (q + 1) := rfl
      obtain ⟨z, hz⟩ : ∃ z, bits .and .u32 (g / 2 ^ q) 1 = z := ⟨_, rfl⟩
      obtain ⟨n, hn⟩ : ∃ n, gvN g q = n := ⟨_, rfl⟩
      obtain ⟨n2, hn2⟩ : ∃ n2, gvN g (q + 1) = n2 := ⟨_, rfl⟩
      rw [hz, hn, hn2] at hs
      rw [hz] at hw
      rw [hn] at hb ⊢
      have y4 : IntKind.i64.wrap z = z := IntWalk.i64_in _ ⟨by have := hw.1; omega, by have := hw.2; omega⟩
      have HN2 := Lib.hid hn2
      have HS := Lib.hid hs
      have y6 : 0 ≤ z := hw.1
      have y7 : z ≤ 4294967295 := hw.2
      have y8 : 0 ≤ n := hb.1
      have y9 : n ≤ 137438953440 := by have := hb.2; omega
      clear hb hb2 hw hs hn hn2 hq
      go_wp2
      go_roundw
      case rel => exact ⟨q + 1, by go_num, by omega, by rw [HN2.out, ← HS.out], trivial⟩
      case measure => (simp [RowKit.intOf]) <;> omega
    · have y1 : ¬ (q : Int) < 32 := by omega
      have e : q = 32 := by omega
      subst e
      go_wp2
      go_ret
      exact ⟨rfl, (Held.refl w).alloc _⟩
def balP (x0 g : Int) : Bool := !(gvN g 32 == x0)
set_option maxHeartbeats 2000000 in
theorem balpend_any (x0 g : Int) (h0 : Wd x0) (w : World) : Calls Tryz.prog 143 #[.agg #[.int .u32 x0, .int .u32 g]] w fun e w' => e = .returned (.bool (balP x0 g)) ∧ Held w w' := by
  have HG := Lib.hid fun w => given_any x0 g w
  have hb := gvN_bd g 32
  unfold balP
  generalize gvN g 32 = n at *
  have y1 : IntKind.u64.wrap n = n := IntWalk.u64_in _ ⟨by omega, by omega⟩
  have y2 : IntKind.u64.wrap x0 = x0 := IntWalk.u64_in _ ⟨by have := h0.1; omega, by have := h0.2; omega⟩
  clear hb h0
  go_enter Tryz.func143, Tryz.ntmps143
  go_wp2
  have c0 := ((Mem.start w).alloc #[.int .u32 x0, .int .u32 g] 55).cell 0 rfl 0 rfl
  have c1 := ((Mem.start w).alloc #[.int .u32 x0, .int .u32 g] 55).cell 0 rfl 1 rfl
  have k0 := cell_regrown c0
  have k1 := cell_regrown c1
  have cG := Lib.hid fun d os => Calls.regrown_of (d := d) (os := os) (HG.out (grow (redrawn (w.alloc (.cells #[.int .u32 x0, .int .u32 g] 55)) d) os))
  clear c0 c1 HG
  refine wp_region_quiet_below (by kernel_rfl) (by kernel_rfl) ?_
  repeat (go_big_quiet_step (first | (go_at_call 156; exact cG.out _ _)))
  refine wpQuiet_nil ?_
  intro w5 hw'
  obtain ⟨⟨dq, osq⟩, hw''⟩ := hw'
  have h5 : Held (w.alloc (.cells #[.int .u32 x0, .int .u32 g] 55)) w5 := by rw [hw'']; exact below_regrown _ dq osq
  have H5 := Lib.hid (((Held.refl w).alloc _).step h5)
  clear hw'' h5 k0 k1 cG
  go_wp2
  go_ret
  exact ⟨by simp [bne], H5.out⟩
set_option maxHeartbeats 2000000 in
theorem balmay_any (x0 g : Int) (w : World) : Calls Tryz.prog 83 #[.agg #[.int .u32 x0, .int .u32 g], .int .i64 8] w (BoolHeld w) := by
  go_enter Tryz.func83, Tryz.ntmps83
  go_wp2
  go_loopw [5] (fun i wr => ∃ q : Nat, i = .int .i64 (q : Int) ∧ q ≤ 32 ∧ wr = w.alloc (.cells #[.int .u32 x0, .int .u32 g] 55)) (fun i _ => 32 - (RowKit.intOf i).toNat)
  case atStart => exact ⟨0, rfl, by decide, rfl⟩
  case round =>
    obtain ⟨q, rfl, hq, rfl⟩ := hrel
    by_cases h : q < 32
    · have y1 : (q : Int) < 32 := by omega
      have y2 : (0 : Int) ≤ q := by omega
      have y3 : IntKind.u64.wrap (q : Int) = q := IntWalk.u64_in _ ⟨by omega, by omega⟩
      cases hz : (bits .and .u32 (g / 2 ^ q) 1 == 1)
      · go_wp2
        go_roundw
        case rel => exact ⟨q + 1, by go_num, by omega, trivial⟩
        case measure => (simp [RowKit.intOf]) <;> omega
      · by_cases h8 : 8 ≤ q
        · have y4 : (8 : Int) ≤ q := by omega
          go_wp2
          go_ret
          exact ⟨_, rfl, (Held.refl w).alloc _⟩
        · have y4 : ¬ (8 : Int) ≤ q := by omega
          go_wp2
          go_roundw
          case rel => exact ⟨q + 1, by go_num, by omega, trivial⟩
          case measure => (simp [RowKit.intOf]) <;> omega
    · have y1 : ¬ (q : Int) < 32 := by omega
      go_wp2
      go_ret
      exact ⟨_, rfl, (Held.refl w).alloc _⟩
end Ma
end Go.Proofs.YtdacgdokbfcgdaaGreat

namespace Go.Proofs.YtdacgdokbfcgdaaGreat
open Go.RowKit Go.BigFrame Go.Sort Go.Lib
namespace Ma
theorem load_con {w : World} {b : Nat} {y0 : Value} {t : TypeId} (h : w.heap[b]? = some (.cells #[y0] t (0, 0))) : (loadVar 47 ⟨b, 0, none⟩).run Tryz.prog w = .ok (.agg #[y0]) w := by
  obtain ⟨fs, hu⟩ := uCon
  exact Big.run_load (P := Tryz.prog) w b 0 1 t 47 #[y0] (0, 0) _ h hu rfl sCon (by simp) [y0] rfl
def ConTo (w : World) (e : Ending) (w' : World) : Prop := ∃ (s : ByteArray) (z : Int), e = .returned (.tuple #[.agg #[.string s], .int .u32 z]) ∧ s.size ≤ 16 ∧ Wd z ∧ Held w w'
def TypTo (w : World) (e : Ending) (w' : World) : Prop := ∃ (s : ByteArray) (ok : Bool), e = .returned (.tuple #[.agg #[.string s], .bool ok]) ∧ s.size ≤ 16 ∧ Held w w'
set_option maxHeartbeats 2000000 in
theorem type_any (s : ByteArray) (c : UInt8) (hs : s.size ≤ 16) (w : World) : Calls Tryz.prog 86 #[.agg #[.string s], .int .u8 (c.toNat : Int)] w (TypTo w) := by
  by_cases h : 16 ≤ s.size
  · have z : (16 : Int) ≤ s.size := by omega
    have HS := Lib.hid hs
    clear hs h
    go_enter Tryz.func86, Tryz.ntmps86
    go_wp2
    refine bodyPost_ret (v := .tuple #[.agg #[.string s], .bool false]) (by simp [results, Tryz.results86, go_sem]) rfl ?_
    exact ⟨_, _, rfl, HS.out, ((Held.refl w).alloc _).alloc _⟩
  · have z : ¬ (16 : Int) ≤ s.size := by omega
    have HC := Lib.hid fun (w' : World) => By.one_cell w' (c.toNat : Int) c rfl 5
    have HB0 := Lib.hid fun (w' a : World) (k : Held (w'.alloc (.cells #[.int .u8 (c.toNat : Int)] 5)) a) => By.bytes_back a ⟨w'.heap.size, 0, none⟩ 1 [c] (fun j hj => k.cell (HC.out w' j hj))
    simp only [List.length_singleton] at HB0
    have hb1 := HB0.out ((w.alloc (.cells #[.string s] 47)).alloc (.cells #[.string ⟨#[]⟩] 47)) _ (Held.refl _)
    simp only [World.size_alloc] at hb1
    have hsz : (s ++ (⟨#[c]⟩ : ByteArray)).size ≤ 16 := by
      have h1 : (⟨#[c]⟩ : ByteArray).size = 1 := rfl
      rw [ByteArray.size_append]
      omega
    have HS2 := Lib.hid hsz
    clear hsz
    clear hs HC h
    go_enter Tryz.func86, Tryz.ntmps86
    go_wp2
    refine bodyPost_ret (v := .tuple #[.agg #[.string (s ++ ⟨#[c]⟩)], .bool true]) (by simp [results, Tryz.results86, go_sem]) rfl ?_
    exact ⟨_, _, rfl, HS2.out, (((Held.refl w).alloc _).alloc _).alloc _⟩
set_option maxHeartbeats 2000000 in
theorem conin_any (s : ByteArray) (p : Int) (hs : s.size ≤ 16) (w : World) : Calls Tryz.prog 122 #[.agg #[.string s], .int .i64 p] w (ConTo w) := by
  have M0 := Lib.hid (((Mem.start w).alloc #[.string s] 47).alloc' (b := w.heap.size + 1) (by simp) #[.string ⟨#[]⟩] 47)
  simp only [List.cons_append, List.nil_append] at M0
  have HS := Lib.hid hs
  by_cases hp : p = 0
  · subst hp
    by_cases h0 : s.size = 0
    · have z : ((s.size : Int) == 0) = true := by rw [h0]; rfl
      clear hs h0
      go_enter Tryz.func122, Tryz.ntmps122
      go_wp2
      refine bodyPost_ret (v := .tuple #[.agg #[.string s], .int .u32 4294967295]) (by simp [results, Tryz.results122, go_sem]) rfl ?_
      exact ⟨_, _, rfl, HS.out, ⟨by decide, by decide⟩, ((Held.refl w).alloc _).alloc _⟩
    · have z : ((s.size : Int) == 0) = false := by rw [beq_eq_false_iff_ne]; omega
      have z1 : (1 : Int) ≤ s.size := by omega
      have z2 : (0 : Int) < s.size := by omega
      have ix := By.idx s 0 0 rfl (by omega)
      have hcb := (s[0]'(by omega)).toNat_lt
      obtain ⟨c, hcs⟩ : ∃ c, s[0]'(by omega) = c := ⟨_, rfl⟩
      rw [hcs] at ix hcb
      have zc : (c.toNat : Int) ≤ 255 := by have : c.toNat < 256 := hcb
                                            omega
      have HS2 := Lib.hid (show (s.extract 1 s.size).size ≤ 16 by simp [ByteArray.size_extract]; omega)
      clear hs h0 hcs hcb
      go_enter Tryz.func122, Tryz.ntmps122
      go_upto_region 4 with fail
      refine Tl.start 10 (fun w' => w'.cell? ⟨w.heap.size, 0, none⟩ = some (.string s)) (by kernel_rfl) (M0.out.drew.cell 0 rfl 0 rfl) (fun hHeld => ?_)
      refine Tl.tf 0 (⟨some 19, .fieldAddr 47 (.tmp 2) 0, 0, "devices.go:24", #[], none⟩ : Oper) ?v1 rfl ?hy1 (by assumption) ?_
      case hy1 => (intro w; go_simp; all_goals (with_reducible rfl))
      try simp only [Act.put, Tl.p2, Tl.p3, Tl.p4]
      refine Tl.tk 1 (⟨some 20, .load 9 (.tmp 19), 9, "devices.go:24", #[⟨0, .data⟩], none⟩ : Oper) ?v2 rfl ?hy2 (by assumption) ?_
      case hy2 => (intro w hSw; (try dsimp only at hSw); go_simp; all_goals (with_reducible rfl))
      try simp only [Act.put, Tl.p2, Tl.p3, Tl.p4]
      refine Tl.tf 2 (⟨some 21, .slice 9 (.tmp 20) (some (.const (.int .i64 1))) none none, 9, "devices.go:24", #[⟨1, .data⟩], none⟩ : Oper) ?v3 rfl ?hy3 (by assumption) ?_
      case hy3 => (intro w; go_simp; all_goals (with_reducible rfl))
      try simp only [Act.put, Tl.p2, Tl.p3, Tl.p4]
      refine Tl.tf 3 (⟨some 22, .build 47 #[(0, .tmp 21)], 47, "devices.go:24", #[⟨2, .data⟩], none⟩ : Oper) ?v4 rfl ?hy4 (by assumption) ?_
      case hy4 => (intro w; go_simp; all_goals (with_reducible rfl))
      try simp only [Act.put, Tl.p2, Tl.p3, Tl.p4]
      refine Tl.tf 4 (⟨some 23, .fieldAddr 47 (.tmp 2) 0, 0, "devices.go:24", #[⟨8, .gcOnly .lateStores⟩], none⟩ : Oper) ?v5 rfl ?hy5 (by assumption) ?_
      case hy5 => (intro w; go_simp; all_goals (with_reducible rfl))
      try simp only [Act.put, Tl.p2, Tl.p3, Tl.p4]
      refine Tl.tk 5 (⟨some 24, .load 9 (.tmp 23), 9, "devices.go:24", #[⟨4, .data⟩, ⟨8, .gcOnly .lateStores⟩], none⟩ : Oper) ?v6 rfl ?hy6 (by assumption) ?_
      case hy6 => (intro w hSw; (try dsimp only at hSw); go_simp; all_goals (with_reducible rfl))
      try simp only [Act.put, Tl.p2, Tl.p3, Tl.p4]
      refine Tl.tf 6 (⟨some 25, .index 9 (.tmp 24) (.const (.int .i64 0)), 5, "devices.go:24", #[⟨5, .data⟩, ⟨8, .gcOnly .lateStores⟩], none⟩ : Oper) ?v7 rfl ?hy7 (by assumption) ?_
      case hy7 => (intro w; go_simp; all_goals (with_reducible rfl))
      try simp only [Act.put, Tl.p2, Tl.p3, Tl.p4]
      refine Tl.tf 7 (⟨some 26, .convert 5 40 (.tmp 25), 40, "devices.go:24", #[⟨6, .data⟩, ⟨8, .gcOnly .lateStores⟩], none⟩ : Oper) ?v8 rfl ?hy8 (by assumption) ?_
      case hy8 => (intro w; go_simp; all_goals (with_reducible rfl))
      try simp only [Act.put, Tl.p2, Tl.p3, Tl.p4]
      refine Tl.step (i := 8) (o := (⟨none, .store 47 (.tmp 4) (.tmp 22), 0, "devices.go:24", #[⟨3, .data⟩, ⟨0, .phase⟩, ⟨1, .phase⟩, ⟨2, .phase⟩, ⟨3, .phase⟩, ⟨4, .textOnly .lateStores⟩, ⟨5, .textOnly .lateStores⟩, ⟨6, .textOnly .lateStores⟩, ⟨7, .textOnly .lateStores⟩], none⟩ : Oper)) (by kernel_rfl) rfl (fun K hK => ?_)
      refine Mem.step_storeAll 47 rfl rfl rfl rfl 1 M0.out.drew rfl (news := #[.string (s.extract 1 s.size)]) sCon rfl (by intro v hv; simp at hv; subst hv; rfl) ?_
      intro w4 M4'
      have M4 := Lib.hid M4'
      clear M4'
      refine hK.out _ _ (M4.out.cell 0 rfl 0 rfl) (fun hHeld => ?_)
      clear hK K
      try simp only [Act.put, Tl.p2, Tl.p3, Tl.p4]
      refine Tl.tf 9 (⟨some 5, .assign (.tmp 26), 40, "devices.go:24", #[⟨7, .data⟩, ⟨8, .chain⟩, ⟨0, .phase⟩, ⟨1, .phase⟩, ⟨2, .phase⟩, ⟨3, .phase⟩, ⟨4, .phase⟩, ⟨5, .phase⟩, ⟨6, .phase⟩, ⟨7, .phase⟩, ⟨8, .phase⟩], none⟩ : Oper) ?v9 rfl ?hy9 (by assumption) ?_
      case hy9 => (intro w; go_simp; all_goals (with_reducible rfl))
      try simp only [Act.put, Tl.p2, Tl.p3, Tl.p4]
      refine Tl.done (by kernel_rfl) ?_ _
      go_wp2
      refine bodyPost_ret (Bx.res_ct Tryz.results122 rfl (load_con (M4.out.blk 1 rfl))) rfl ?_
      exact ⟨_, _, rfl, HS2.out, (by first | exact wrap_wd _ | exact mod_wd _ | exact ⟨by omega, by omega⟩), M4.out.held⟩
  · have z : (p == 0) = false := by rw [beq_eq_false_iff_ne]; exact hp
    by_cases hp1 : p = 1
    · subst hp1
      have zs : (s.size : Int) ≤ 16 := by omega
      clear hs
      go_enter Tryz.func122, Tryz.ntmps122
      go_upto_region 6 with fail
      refine Tl.start 7 (fun w' => w'.heap[w.heap.size]? = some (.cells #[.string s] 47 (0, 0)) ∧ w'.cell? ⟨w.heap.size, 0, none⟩ = some (.string s)) (by kernel_rfl) (⟨M0.out.drew.blk 0 rfl, M0.out.drew.cell 0 rfl 0 rfl⟩) (fun hHeld => ?_)
      refine Tl.ty 0 (⟨some 30, .load 47 (.tmp 2), 47, "devices.go:26", #[], none⟩ : Oper) (.agg #[.string s]) rfl (Big.yields_load 47 rfl rfl rfl (fun w' h => h.1) uCon sCon) (by assumption) ?_
      try simp only [Act.put, Tl.p2, Tl.p3, Tl.p4]
      refine Tl.tf 1 (⟨some 31, .fieldAddr 47 (.tmp 2) 0, 0, "devices.go:26", #[], none⟩ : Oper) ?v11 rfl ?hy11 (by assumption) ?_
      case hy11 => (intro w; go_simp; all_goals (with_reducible rfl))
      try simp only [Act.put, Tl.p2, Tl.p3, Tl.p4]
      refine Tl.tk 2 (⟨some 32, .load 9 (.tmp 31), 9, "devices.go:26", #[⟨1, .data⟩], none⟩ : Oper) ?v12 rfl ?hy12 (by assumption) ?_
      case hy12 => (intro w hSw; (try dsimp only at hSw); go_simp; all_goals (with_reducible rfl))
      try simp only [Act.put, Tl.p2, Tl.p3, Tl.p4]
      refine Tl.tf 3 (⟨some 33, .call { callee := .builtin .len, args := #[.tmp 32], argTypes := #[9] }, 3, "devices.go:26", #[⟨2, .data⟩], none⟩ : Oper) ?v13 rfl ?hy13 (by assumption) ?_
      case hy13 => (intro w; go_simp; all_goals (with_reducible rfl))
      try simp only [Act.put, Tl.p2, Tl.p3, Tl.p4]
      refine Tl.tf 4 (⟨some 34, .convert 3 40 (.tmp 33), 40, "devices.go:26", #[⟨3, .data⟩, ⟨5, .gcOnly .lateStores⟩], none⟩ : Oper) ?v14 rfl ?hy14 (by assumption) ?_
      case hy14 => (intro w; go_simp; all_goals (with_reducible rfl))
      try simp only [Act.put, Tl.p2, Tl.p3, Tl.p4]
      refine Tl.step (i := 5) (o := (⟨none, .store 47 (.tmp 4) (.tmp 30), 0, "devices.go:26", #[⟨0, .data⟩, ⟨0, .phase⟩, ⟨1, .textOnly .lateStores⟩, ⟨2, .textOnly .lateStores⟩, ⟨3, .textOnly .lateStoresUnsure⟩, ⟨4, .textOnly .lateStores⟩], none⟩ : Oper)) (by kernel_rfl) rfl (fun K hK => ?_)
      refine Mem.step_storeAll 47 rfl rfl rfl rfl 1 M0.out.drew rfl (news := #[.string s]) sCon rfl (by intro v hv; simp at hv; subst hv; rfl) ?_
      intro w4 M4'
      have M4 := Lib.hid M4'
      clear M4'
      refine hK.out _ _ (⟨M4.out.blk 0 rfl, M4.out.cell 0 rfl 0 rfl⟩) (fun hHeld => ?_)
      clear hK K
      try simp only [Act.put, Tl.p2, Tl.p3, Tl.p4]
      refine Tl.tf 6 (⟨some 5, .assign (.tmp 34), 40, "devices.go:26", #[⟨4, .data⟩, ⟨5, .chain⟩, ⟨0, .phase⟩, ⟨1, .phase⟩, ⟨2, .phase⟩, ⟨3, .phase⟩, ⟨4, .phase⟩, ⟨5, .phase⟩], none⟩ : Oper) ?v15 rfl ?hy15 (by assumption) ?_
      case hy15 => (intro w; go_simp; all_goals (with_reducible rfl))
      try simp only [Act.put, Tl.p2, Tl.p3, Tl.p4]
      refine Tl.done (by kernel_rfl) ?_ _
      go_wp2
      refine bodyPost_ret (Bx.res_ct Tryz.results122 rfl (load_con (M4.out.blk 1 rfl))) rfl ?_
      exact ⟨_, _, rfl, HS.out, (by first | exact wrap_wd _ | exact mod_wd _ | exact ⟨by omega, by omega⟩), M4.out.held⟩
    · have z1 : (p == 1) = false := by rw [beq_eq_false_iff_ne]; exact hp1
      clear hs hp hp1
      go_enter Tryz.func122, Tryz.ntmps122
      go_wp2
      refine bodyPost_ret (v := .tuple #[.agg #[.string s], .int .u32 0]) (by simp [results, Tryz.results122, go_sem]) rfl ?_
      exact ⟨_, _, rfl, HS.out, ⟨by decide, by decide⟩, ((Held.refl w).alloc _).alloc _⟩
end Ma
end Go.Proofs.YtdacgdokbfcgdaaGreat
