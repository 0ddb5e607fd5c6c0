/-
  Contracts of the reference's machine: the interrupt that is taken.
  Contracts of the reference's devices: what arrives.
  Contracts of the reference's machine: whether it may run, whether it reads the clock.
  Contracts of the reference: a copy of a list of words.
  Contracts of the reference's machine: stuck, reads, owned.
  Contracts of the reference's devices: giving pages.
  Contracts of the reference's machine: ports, read.
-/
import Derived.Test.YtdacgdokbfcgdaaGreatW9
import Derived.Test.YtdacgdokbfcgdaaGreatW4
import Derived.Test.YtdacgdokbfcgdaaGreatW2
import Derived.Laws.CopyOwn
import Derived.OwnWalk
import Derived.Deep.CutBlock
import Derived.Deep.DeepCutAuto
import Derived.Test.YtdacgdokbfcgdaaGreatW8
set_option linter.unusedVariables false
set_option linter.unusedSimpArgs false
set_option maxRecDepth 100000
namespace Go.Proofs.YtdacgdokbfcgdaaGreat
open Go.RowKit Go.BigFrame Go.Sort Go.Lib
namespace Ma
def low (k : Nat) : Nat := if k % 2 ≠ 0 then 0 else if k / 2 % 2 ≠ 0 then 1 else if k / 4 % 2 ≠ 0 then 2 else if k / 8 % 2 ≠ 0 then 3 else 4
theorem low_eq {k q : Nat} (h1 : k ≤ 31) (hq : q ≤ 4) (h2 : ∀ j, j < q → k / 2 ^ j % 2 = 0) (h3 : k / 2 ^ q % 2 ≠ 0) : low k = q := by
  unfold low
  rcases (by omega : q = 0 ∨ q = 1 ∨ q = 2 ∨ q = 3 ∨ q = 4) with rfl | rfl | rfl | rfl | rfl
  · simp at h3; simp [h3]
  · have a := h2 0 (by decide); simp at a h3; simp [a, h3]
  · have a := h2 0 (by decide); have b := h2 1 (by decide); simp at a b h3; simp [a, b, h3]
  · have a := h2 0 (by decide); have b := h2 1 (by decide); have c := h2 2 (by decide); simp at a b c h3; simp [a, b, c, h3]
  · have a := h2 0 (by decide); have b := h2 1 (by decide); have c := h2 2 (by decide); have d := h2 3 (by decide); simp at a b c d; simp [a, b, c, d]
theorem low_ex {k : Nat} (h1 : k ≤ 31) (h0 : k ≠ 0) (h2 : ∀ j, j < 4 → k / 2 ^ j % 2 = 0) : k / 2 ^ 4 % 2 ≠ 0 := by
  have a := h2 0 (by decide); have b := h2 1 (by decide); have c := h2 2 (by decide); have d := h2 3 (by decide)
  simp at a b c d ⊢
  omega
theorem or5 (b0 b1 b2 b3 b4 : Bool) : ∃ n : Nat, n ≤ 31 ∧ bits .or .u32 (bits .or .u32 (bits .or .u32 (bits .or .u32 (lineV b0 0) (lineV b1 1)) (lineV b2 2)) (lineV b3 3)) (lineV b4 4) = (n : Int) := by
  refine ⟨(bits .or .u32 (bits .or .u32 (bits .or .u32 (bits .or .u32 (lineV b0 0) (lineV b1 1)) (lineV b2 2)) (lineV b3 3)) (lineV b4 4)).toNat, ?_⟩
  cases b0 <;> cases b1 <;> cases b2 <;> cases b3 <;> cases b4 <;> decide
theorem en_nat (C : List Int) (d : Dv) (hw : Wd (C.getD 24 0)) : ∃ k : Nat, enV C d = (k : Int) ∧ k ≤ 31 := by
  obtain ⟨n, hn, he⟩ := or5 d.tf (decide (0 < d.keys.size)) (d.dst == 2 || d.dst == 3) d.nrc (balP d.bta d.bgi)
  obtain ⟨x, hx, hx2⟩ := wd_nat hw
  refine ⟨n &&& x, ?_, Nat.le_trans Nat.and_le_left hn⟩
  unfold enV linesV
  rw [he, hx]
  exact u32_and_nat n x (by omega) hx2
theorem and1 (n : Nat) (h : n < 4294967296) : bits .and .u32 (n : Int) 1 = ((n % 2 : Nat) : Int) := by
  have h1 := u32_and_nat n 1 h (by decide)
  rw [show ((1 : Nat) : Int) = 1 from rfl] at h1
  rw [h1, Nat.and_one_is_mod]
def intrL (C : List Int) (d : Dv) : List Int := if ((bits .and .u32 (C.getD 17 0) 2 == 0) || (enV C d == 0)) = true then C else trapL C (16 + (low (enV C d).toNat : Int)) 0
theorem intrL_ok {C : List Int} (d : Dv) (hC : CpuOK C) : CpuOK (intrL C d) := by
  unfold intrL
  split
  · exact hC
  · refine trapL_ok hC ⟨by omega, ?_⟩ ⟨by decide, by decide⟩
    have : low (enV C d).toNat ≤ 4 := by unfold low; (repeat' split) <;> omega
    omega
def CpuAt (C : List Int) (w : World) (e : Ending) (w' : World) : Prop := e = .returned (.agg (wA C)) ∧ Held w w'
set_option maxHeartbeats 4000000 in
theorem interrupted_any (C : List Int) (mv : Value) (d : Dv) (hC : CpuOK C) (hb : Wd d.bta) (hm : mv.oneCell' = true) (w : World) : Calls Tryz.prog 90 #[macV C mv d] w (CpuAt (intrL C d) w) := by
  have HEN := Lib.hid fun w => enabled_any C mv d hC.len hb w
  have HSZ : Is (mcA C mv d []).size 49 := ⟨mc_size hC.len⟩
  have c17 := mc_cpu (mv := mv) (d := d) (X := []) hC.len (j := 17) (by decide)
  have HTK := Lib.hid (take_cpu (mv := mv) (d := d) (X := []) hC.len)
  have HWS : Is (wA C).size 25 := ⟨by rw [wA_size]; exact hC.len⟩
  have M0 := Lib.hid (((Mem.start w).alloc (mcA C mv d []) 57).alloc' (b := w.heap.size + 1) (by simp) z25 44)
  simp only [List.cons_append, List.nil_append] at M0
  obtain ⟨k, hk, hk31⟩ := en_nat C d (hC.at_ 24)
  have HTR := Lib.hid fun (q : Nat) (hq : q ≤ 4) w => trap_any C (16 + (q : Int)) 0 hC ⟨by omega, by omega⟩ w
  unfold CpuTo at HTR
  have HTO := Lib.hid fun (q : Nat) (hq : q ≤ 4) => trapL_ok hC (cause := 16 + (q : Int)) (bad := 0) ⟨by omega, by omega⟩ ⟨by decide, by decide⟩
  have hI : intrL C d = if ((bits .and .u32 (C.getD 17 0) 2 == 0) || ((k : Int) == 0)) = true then C else trapL C (16 + (low k : Int)) 0 := by
    unfold intrL; rw [hk]; rfl
  rw [hk] at HEN
  rw [hI]
  clear hI hk
  obtain ⟨st, hst⟩ : ∃ st, C.getD 17 0 = st := ⟨_, rfl⟩
  rw [hst] at c17 ⊢
  unfold macV at *
  generalize mcA C mv d [] = cA at *
  have HOK := Lib.hid hC
  clear hC hst
  have fin : ∀ q1 : Prop, True := fun _ => trivial
  by_cases q1 : (bits .and .u32 st 2 == 0) = true
  · rw [q1, Bool.true_or, if_pos rfl]
    unfold CpuAt
    go_enter Tryz.func90, Tryz.ntmps90
    go_wp2_with (show wpList _ _ _ ((⟨_, Op.load 57 _, _, _, _, _⟩ : Oper) :: _) _ _; refine Mem.go_loadAll 57 rfl rfl rfl 0 M0.out rfl uMac (by rw [HSZ.out]; exact sMac) ?_)
    refine (HEN.out _).mono ?_
    rintro e w3 ⟨rfl, h3⟩
    have M3 := Lib.hid (M0.out.keep h3)
    clear h3
    have d17 := M3.out.cell 0 rfl 17 c17
    go_wp2_with (first
      | (show wpList _ _ _ ((⟨_, Op.load 44 _, _, _, _, _⟩ : Oper) :: _) _ _; refine Mem.go_loadPart 44 rfl rfl 0 25 rfl 0 M3.out rfl uCpu sCpu (by rw [HSZ.out]; decide) HTK.out ?_)
      | (show wpList _ _ _ ((⟨_, Op.store 44 _ _, _, _, _, _⟩ : Oper) :: _) _ _; refine Mem.go_storeAll 44 rfl rfl rfl rfl 1 M3.out rfl (by rw [HWS.out]; exact sCpu) (by rw [HWS.out]; rfl) (wA_one _) ?_; intro w4 M4'; have M4 := Lib.hid M4'; clear M4'))
    refine bodyPost_ret (Bx.res_c Tryz.results90 rfl (load_w HWS.out (M4.out.blk 1 rfl))) rfl ?_
    exact ⟨rfl, M4.out.held⟩
  · have q1f : (bits .and .u32 st 2 == 0) = false := by simpa using q1
    rw [q1f, Bool.false_or]
    by_cases q2 : k = 0
    · subst q2
      rw [if_pos (by rfl)]
      unfold CpuAt
      clear q1
      go_enter Tryz.func90, Tryz.ntmps90
      go_wp2_with (show wpList _ _ _ ((⟨_, Op.load 57 _, _, _, _, _⟩ : Oper) :: _) _ _; refine Mem.go_loadAll 57 rfl rfl rfl 0 M0.out rfl uMac (by rw [HSZ.out]; exact sMac) ?_)
      refine (HEN.out _).mono ?_
      rintro e w3 ⟨rfl, h3⟩
      have M3 := Lib.hid (M0.out.keep h3)
      clear h3
      have d17 := M3.out.cell 0 rfl 17 c17
      go_wp2_with (first
        | (show wpList _ _ _ ((⟨_, Op.load 44 _, _, _, _, _⟩ : Oper) :: _) _ _; refine Mem.go_loadPart 44 rfl rfl 0 25 rfl 0 M3.out rfl uCpu sCpu (by rw [HSZ.out]; decide) HTK.out ?_)
        | (show wpList _ _ _ ((⟨_, Op.store 44 _ _, _, _, _, _⟩ : Oper) :: _) _ _; refine Mem.go_storeAll 44 rfl rfl rfl rfl 1 M3.out rfl (by rw [HWS.out]; exact sCpu) (by rw [HWS.out]; rfl) (wA_one _) ?_; intro w4 M4'; have M4 := Lib.hid M4'; clear M4'))
      refine bodyPost_ret (Bx.res_c Tryz.results90 rfl (load_w HWS.out (M4.out.blk 1 rfl))) rfl ?_
      exact ⟨rfl, M4.out.held⟩
    · have z0 : ((k : Int) == 0) = false := by rw [beq_eq_false_iff_ne]; omega
      rw [z0, if_neg (by decide)]
      unfold CpuAt
      have HK := Lib.hid (And.intro hk31 q2)
      clear q1 q2
      go_enter Tryz.func90, Tryz.ntmps90
      go_wp2_with (show wpList _ _ _ ((⟨_, Op.load 57 _, _, _, _, _⟩ : Oper) :: _) _ _; refine Mem.go_loadAll 57 rfl rfl rfl 0 M0.out rfl uMac (by rw [HSZ.out]; exact sMac) ?_)
      refine (HEN.out _).mono ?_
      rintro e w3 ⟨rfl, h3⟩
      have M3 := Lib.hid (M0.out.keep h3)
      clear h3
      have d17 := M3.out.cell 0 rfl 17 c17
      go_wp2
      go_loopw [4] (fun i wr => ∃ q : Nat, i = .int .i64 (q : Int) ∧ q ≤ 4 ∧ (∀ j, j < q → k / 2 ^ j % 2 = 0) ∧ wr = w3) (fun i _ => 5 - (RowKit.intOf i).toNat)
      case atStart => exact ⟨0, rfl, by decide, fun j hj => absurd hj (Nat.not_lt_zero _), rfl⟩
      case round =>
        obtain ⟨q, rfl, hq, hlow, rfl⟩ := hrel
        have y0 : (0 : Int) ≤ q := by omega
        have y3 : IntKind.u64.wrap (q : Int) = q := IntWalk.u64_in _ ⟨by omega, by omega⟩
        have hsh : (k : Int) / 2 ^ q = ((k / 2 ^ q : Nat) : Int) := by push_cast; rfl
        have hlt : k / 2 ^ q < 4294967296 := Nat.lt_of_le_of_lt (Nat.div_le_self _ _) (by omega)
        have hb1 := and1 (k / 2 ^ q) hlt
        by_cases hz : k / 2 ^ q % 2 = 0
        · have hq4 : q < 4 := by
            rcases Nat.lt_or_ge q 4 with h | h
            · exact h
            · exfalso
              have e : q = 4 := by omega
              subst e
              exact low_ex HK.out.1 HK.out.2 hlow hz
          have y4 : (bits .and .u32 ((k : Int) / 2 ^ q) 1 == 0) = true := by rw [hsh, hb1, hz]; rfl
          have y5 : (q : Int) < 4 := by omega
          have HL := Lib.hid (show ∀ j, j < q + 1 → k / 2 ^ j % 2 = 0 from fun j hj => by
            rcases Nat.lt_or_ge j q with h | h
            · exact hlow j h
            · rw [show j = q by omega]; exact hz)
          clear hlow hz hsh hlt hb1 hq
          go_wp2
          go_roundw
          case rel => exact ⟨q + 1, by go_num, by omega, HL.out, trivial⟩
          case measure => (simp [RowKit.intOf]) <;> omega
        · have y4 : (bits .and .u32 ((k : Int) / 2 ^ q) 1 == 0) = false := by rw [hsh, hb1, beq_eq_false_iff_ne]; omega
          have HQ := Lib.hid (low_eq HK.out.1 hq hlow hz)
          have HQ4 := Lib.hid hq
          have y5 : (q : Int) ≤ 4 := by omega
          clear hlow hz hsh hlt hb1 hq
          go_wp2_with (show wpList _ _ _ ((⟨_, Op.load 44 _, _, _, _, _⟩ : Oper) :: _) _ _; refine Mem.go_loadPart 44 rfl rfl 0 25 rfl 0 M3.out rfl uCpu sCpu (by rw [HSZ.out]; decide) HTK.out ?_)
          refine (HTR.out q HQ4.out _).mono ?_
          rintro e w5 ⟨rfl, h5⟩
          have M5 := Lib.hid (M3.out.keep h5)
          have HT5 := Lib.hid (HTO.out q HQ4.out)
          clear h5
          go_wp2_with (show wpList _ _ _ ((⟨_, Op.store 44 _ _, _, _, _, _⟩ : Oper) :: _) _ _; refine Mem.go_storeAll 44 rfl rfl rfl rfl 1 M5.out rfl (by rw [wA_size, HT5.out.len]; exact sCpu) (by rw [wA_size, HT5.out.len]; rfl) (wA_one _) ?_; intro w4 M4'; have M4 := Lib.hid M4'; clear M4')
          refine bodyPost_ret (Bx.res_c Tryz.results90 rfl (load_w (by rw [wA_size, HT5.out.len]) (M4.out.blk 1 rfl))) rfl ?_
          rw [HQ.out]
          exact ⟨rfl, M4.out.held⟩
end Ma
end Go.Proofs.YtdacgdokbfcgdaaGreat

namespace Go.Proofs.YtdacgdokbfcgdaaGreat
open Go.RowKit Go.BigFrame Go.Sort Go.Lib
namespace Ma
def FinTo (W : World) (g cap : Nat) (F : List Ck) (e : Ending) (w' : World) : Prop := ∃ (x0 x1 x2 x3 x4 x5 x6 : Int) (x7 : ByteArray) (ok : Bool) (L' : List Int), e = .returned (.tuple #[.agg (dskA x0 x1 x2 x3 x4 x5 x6 x7), .bool ok]) ∧ DskOK x0 x1 x2 x3 x4 x5 x6 x7 ∧ MemOK L' ∧ Mem W w' (memR W.heap.size g cap L' :: F)
def AccTo (W : World) (g cap : Nat) (F : List Ck) (e : Ending) (w' : World) : Prop := ∃ (x0 x1 : Int) (x2 : Bool) (x3 : Int) (x4 : Bool) (x5 : Int) (ok : Bool) (L' : List Int), e = .returned (.tuple #[.agg (nicA x0 x1 x2 x3 x4 x5), .bool ok]) ∧ NicOK x0 x1 x3 x5 ∧ MemOK L' ∧ Mem W w' (memR W.heap.size g cap L' :: F)

set_option maxHeartbeats 4000000 in
theorem accept_any (W : World) (g cap : Nat) (x0 x1 : Int) (x2 : Bool) (x3 : Nat) (x4 : Bool) (x5 : Int) (s : ByteArray) (hd : NicOK x0 x1 x3 x5) (L : List Int) (F : List Ck) (w : World) (hM : Mem W w (memR W.heap.size g cap L :: F)) (hL : MemOK L) :
    Calls Tryz.prog 88 #[.agg (nicA x0 x1 x2 x3 x4 x5), .slice (some ⟨g, 0, none⟩) 256 cap, .string s] w (AccTo W g cap F) := by
  have HM := Lib.hid hM
  have HL := Lib.hid hL
  have HD := Lib.hid hd
  have hx3 : x3 < 4294967296 := by have := hd.2.2.1.2; omega
  have HP := Lib.hid fun w => page_any (some ⟨g, 0, none⟩) cap x3 hx3 w
  have zx3 : (x3 : Int) ≤ 4294967295 := by omega
  have yx3 : IntKind.i64.wrap (x3 : Int) = x3 := IntWalk.i64_in _ ⟨by omega, by omega⟩
  clear hd
  cases x2
  · clear hM hL
    go_enter Tryz.func88, Tryz.ntmps88
    go_wp2
    refine bodyPost_ret (v := .tuple #[.agg (nicA x0 x1 false x3 x4 x5), .bool false]) (by simp [results, Tryz.results88, go_sem]) rfl ?_
    exact ⟨_, _, _, _, _, _, _, _, rfl, HD.out, HL.out, ((HM.out.skip _).skip _)⟩
  · by_cases q1 : s.size < 1
    · have y1 : (s.size : Int) < 1 := by omega
      clear hM hL q1
      go_enter Tryz.func88, Tryz.ntmps88
      go_wp2
      refine bodyPost_ret (v := .tuple #[.agg (nicA x0 x1 true x3 x4 x5), .bool false]) (by simp [results, Tryz.results88, go_sem]) rfl ?_
      exact ⟨_, _, _, _, _, _, _, _, rfl, HD.out, HL.out, ((HM.out.skip _).skip _)⟩
    · have y1 : ¬ (s.size : Int) < 1 := by omega
      by_cases q2 : 128 < s.size
      · have y2 : (128 : Int) < s.size := by omega
        clear hM hL q1 q2
        go_enter Tryz.func88, Tryz.ntmps88
        go_wp2
        refine bodyPost_ret (v := .tuple #[.agg (nicA x0 x1 true x3 x4 x5), .bool false]) (by simp [results, Tryz.results88, go_sem]) rfl ?_
        exact ⟨_, _, _, _, _, _, _, _, rfl, HD.out, HL.out, ((HM.out.skip _).skip _)⟩
      · have y2 : ¬ (128 : Int) < s.size := by omega
        by_cases q3 : x3 < 8
        · have z8 : decide (x3 < 8) = true := by simpa using q3
          rw [z8] at HP
          have M0 := Lib.hid ((hM.allocF (b := w.heap.size) rfl (nicA x0 x1 true x3 x4 x5) 53).allocF (b := w.heap.size + 1) (by simp) (nicA 0 0 false 0 false 0) 53)
          have HFI := Lib.hid fun (F' : List Ck) (w' : World) (h : Mem W w' (memR W.heap.size g cap L :: F')) => fill_any W g cap x3 L s F' q3 hL w' h
          have ysz : (s.size : Int) ≤ 128 := by omega
          have yu : IntKind.u32.wrap (s.size : Int) = s.size := by rw [IntKind.wrap_u32']; omega
          have HSW := Lib.hid (show Wd (s.size : Int) from ⟨by omega, by omega⟩)
          clear hM hL q1 q2 q3 z8
          go_enter Tryz.func88, Tryz.ntmps88
          go_wp2_with fail
          refine (HP.out _).mono ?_
          rintro e w3 ⟨rfl, rfl⟩
          go_wp2_with fail
          refine (HFI.out _ _ M0.out.up2).mono ?_
          rintro e w4 ⟨rfl, L2, hL2, h4⟩
          have HL2 := Lib.hid hL2
          have M4 := Lib.hid h4.dn2
          clear h4 hL2
          have f2 := M4.out.free 1 rfl 2
          have f3 := M4.out.free 1 rfl 3
          have f4 := M4.out.free 1 rfl 4
          have f5 := M4.out.free 1 rfl 5
          have c2 := M4.out.cell 1 rfl 2 rfl
          have c3 := M4.out.cell 1 rfl 3 rfl
          have c4 := M4.out.cell 1 rfl 4 rfl
          have c5 := M4.out.cell 1 rfl 5 rfl
          have M5' := (((M4.out.put 1 rfl 2 (.bool false)).put 1 rfl 3 (.int .u32 0)).put 1 rfl 4 (.bool true)).put 1 rfl 5 (.int .u32 (s.size : Int))
          have M5 : Hid (Mem W _ (.box (w.heap.size + 1) _ 53 :: .box w.heap.size (nicA x0 x1 false 0 true (s.size : Int)) 53 :: _)) := Lib.hid M5'
          clear M5'
          go_wp2_with (first | (show wpList _ _ _ ((⟨_, Op.load 53 _, _, _, _, _⟩ : Oper) :: _) _ _; refine Mem.go_loadAll 53 rfl rfl rfl 1 M5.out rfl uNic sNic ?_) | (show wpList _ _ _ ((⟨_, Op.store 53 _ _, _, _, _, _⟩ : Oper) :: _) _ _; refine Mem.go_storeAll 53 rfl rfl rfl rfl 0 M5.out rfl sNic rfl (nic_one _ _ _ _ _ _) ?_; intro w6 M6'; have M6 := Lib.hid M6'; clear M6'))
          refine bodyPost_ret (Bx.res_ct Tryz.results88 rfl (load_nic rfl (M6.out.blk 0 rfl))) rfl ?_
          exact ⟨_, _, _, _, _, _, _, _, rfl, ⟨HD.out.1, HD.out.2.1, ⟨by decide, by decide⟩, HSW.out⟩, HL2.out, M6.out.rest.rest⟩
        · have z8 : decide (x3 < 8) = false := by simpa using q3
          rw [z8] at HP
          clear hM hL q1 q2 q3 z8
          go_enter Tryz.func88, Tryz.ntmps88
          go_wp2_with fail
          refine (HP.out _).mono ?_
          rintro e w3 ⟨rfl, rfl⟩
          go_wp2
          refine bodyPost_ret (v := .tuple #[.agg (nicA x0 x1 true x3 x4 x5), .bool false]) (by simp [results, Tryz.results88, go_sem]) rfl ?_
          exact ⟨_, _, _, _, _, _, _, _, rfl, HD.out, HL.out, ((HM.out.skip _).skip _)⟩
set_option maxHeartbeats 4000000 in
theorem finish_any (W : World) (g cap : Nat) (x0 x1 x2 x3 x4 x5 : Int) (x6 : Nat) (x7 : ByteArray) (n : Int) (s : ByteArray) (hd : DskOK x0 x1 x2 x3 x4 x5 x6 x7) (L : List Int) (F : List Ck) (w : World) (hM : Mem W w (memR W.heap.size g cap L :: F)) (hL : MemOK L) :
    Calls Tryz.prog 87 #[.agg (dskA x0 x1 x2 x3 x4 x5 x6 x7), .slice (some ⟨g, 0, none⟩) 256 cap, .agg #[.int .i64 4, .int .u32 n, .string s]] w (FinTo W g cap F) := by
  have HM := Lib.hid hM
  have HL := Lib.hid hL
  have HD := Lib.hid hd
  have hx6 : x6 < 4294967296 := by have := hd.2.2.2.2.2.2.1.2; omega
  have HP := Lib.hid fun w => page_any (some ⟨g, 0, none⟩) cap x6 hx6 w
  have zx6 : (x6 : Int) ≤ 4294967295 := by omega
  have yx6 : IntKind.i64.wrap (x6 : Int) = x6 := IntWalk.i64_in _ ⟨by omega, by omega⟩
  clear hd
  by_cases q1 : x3 = 1
  · subst q1
    by_cases q2 : 1 < n
    · clear hM hL
      go_enter Tryz.func87, Tryz.ntmps87
      go_wp2
      refine bodyPost_ret (v := .tuple #[.agg (dskA x0 x1 x2 1 x4 x5 x6 x7), .bool false]) (by simp [results, Tryz.results87, go_sem]) rfl ?_
      exact ⟨_, _, _, _, _, _, _, _, _, _, rfl, HD.out, HL.out, (((HM.out.skip _).skip _).skip _)⟩
    · by_cases q3 : n = 1
      · subst q3
        by_cases q4 : x4 = 1
        · subst q4
          by_cases q5 : s.size = 128
          · have y5 : ((s.size : Int) == 128) = true := by rw [q5]; rfl
            have y5n : ((s.size : Int) != 128) = false := by rw [bne, y5]; rfl
            by_cases q6 : x6 < 8
            · have z8 : decide (x6 < 8) = true := by simpa using q6
              rw [z8] at HP
              have M0 := Lib.hid (((hM.allocF (b := w.heap.size) rfl (dskA x0 x1 x2 1 1 x5 x6 x7) 51).allocF (b := w.heap.size + 1) (by simp) #[.int .i64 4, .int .u32 1, .string s] 66).allocF (b := w.heap.size + 1 + 1) (by simp) (dskA 0 0 0 0 0 0 0 ⟨#[]⟩) 51)
              have HFI := Lib.hid fun (F' : List Ck) (w' : World) (h : Mem W w' (memR W.heap.size g cap L :: F')) => fill_any W g cap x6 L s F' q6 hL w' h
              have ysz : (s.size : Int) = 128 := by omega
              clear hM hL q2 q5 q6 z8
              go_enter Tryz.func87, Tryz.ntmps87
              go_wp2_with fail
              refine (HP.out _).mono ?_
              rintro e w3 ⟨rfl, rfl⟩
              go_wp2_with fail
              refine (HFI.out _ _ M0.out.up3).mono ?_
              rintro e w4 ⟨rfl, L2, hL2, h4⟩
              have HL2 := Lib.hid hL2
              have M4 := Lib.hid h4.dn3
              clear h4 hL2
              have f3 := M4.out.free 2 rfl 3
              have c3 := M4.out.cell 2 rfl 3 rfl
              have f4 := M4.out.free 2 rfl 4
              have c4 := M4.out.cell 2 rfl 4 rfl
              have f5 := M4.out.free 2 rfl 5
              have c5 := M4.out.cell 2 rfl 5 rfl
              have f6 := M4.out.free 2 rfl 6
              have c6 := M4.out.cell 2 rfl 6 rfl
              have f7 := M4.out.free 2 rfl 7
              have c7 := M4.out.cell 2 rfl 7 rfl
              have e1 := M4.out.cell 1 rfl 1 rfl
              have M4b := M4.out.put 2 rfl 3 (.int .i64 3)
              have e2 := M4b.cell 1 rfl 1 rfl
              have M5' := (((((M4.out.put 2 rfl 3 (.int .i64 3)).put 2 rfl 3 (.int .i64 2)).put 2 rfl 4 (.int .i64 0)).put 2 rfl 5 (.int .u32 0)).put 2 rfl 6 (.int .u32 0)).put 2 rfl 7 (.string ⟨#[]⟩)
              have M5 : Hid (Mem W _ (.box (w.heap.size + 1 + 1) _ 51 :: _ :: .box w.heap.size (dskA x0 x1 x2 2 0 0 0 ⟨#[]⟩) 51 :: _)) := Lib.hid M5'
              clear M5' M4b
              go_wp2_with (first | (show wpList _ _ _ ((⟨_, Op.load 51 _, _, _, _, _⟩ : Oper) :: _) _ _; refine Mem.go_loadAll 51 rfl rfl rfl 2 M5.out rfl uDsk sDsk ?_) | (show wpList _ _ _ ((⟨_, Op.store 51 _ _, _, _, _, _⟩ : Oper) :: _) _ _; refine Mem.go_storeAll 51 rfl rfl rfl rfl 0 M5.out rfl sDsk rfl (dsk_one _ _ _ _ _ _ _ _) ?_; intro w6 M6'; have M6 := Lib.hid M6'; clear M6'))
              refine bodyPost_ret (Bx.res_ct Tryz.results87 rfl (load_dsk rfl (M6.out.blk 0 rfl))) rfl ?_
              exact ⟨_, _, _, _, _, _, _, _, _, _, rfl, ⟨HD.out.1, HD.out.2.1, HD.out.2.2.1, ⟨by decide, by decide⟩, ⟨by decide, by decide⟩, ⟨by decide, by decide⟩, ⟨by decide, by decide⟩, by decide⟩, HL2.out, M6.out.rest.rest.rest⟩
            · have z8 : decide (x6 < 8) = false := by simpa using q6
              rw [z8] at HP
              clear hM hL q2 q5 q6 z8
              go_enter Tryz.func87, Tryz.ntmps87
              go_wp2_with fail
              refine (HP.out _).mono ?_
              rintro e w3 ⟨rfl, rfl⟩
              go_wp2
              refine bodyPost_ret (v := .tuple #[.agg (dskA x0 x1 x2 1 1 x5 x6 x7), .bool false]) (by simp [results, Tryz.results87, go_sem]) rfl ?_
              exact ⟨_, _, _, _, _, _, _, _, _, _, rfl, HD.out, HL.out, (((HM.out.skip _).skip _).skip _)⟩
          · have y5 : ((s.size : Int) == 128) = false := by rw [beq_eq_false_iff_ne]; omega
            have y5n : ((s.size : Int) != 128) = true := by rw [bne, y5]; rfl
            clear hM hL q2 q5
            go_enter Tryz.func87, Tryz.ntmps87
            go_wp2
            refine bodyPost_ret (v := .tuple #[.agg (dskA x0 x1 x2 1 1 x5 x6 x7), .bool false]) (by simp [results, Tryz.results87, go_sem]) rfl ?_
            exact ⟨_, _, _, _, _, _, _, _, _, _, rfl, HD.out, HL.out, (((HM.out.skip _).skip _).skip _)⟩
        · have y4 : (x4 == 1) = false := by rw [beq_eq_false_iff_ne]; exact q4
          by_cases q5 : 0 < s.size
          · have y5 : (0 : Int) < s.size := by omega
            clear hM hL q2 q4 q5
            go_enter Tryz.func87, Tryz.ntmps87
            go_wp2
            refine bodyPost_ret (v := .tuple #[.agg (dskA x0 x1 x2 1 x4 x5 x6 x7), .bool false]) (by simp [results, Tryz.results87, go_sem]) rfl ?_
            exact ⟨_, _, _, _, _, _, _, _, _, _, rfl, HD.out, HL.out, (((HM.out.skip _).skip _).skip _)⟩
          · have y5 : ¬ (0 : Int) < s.size := by omega
            clear hM hL q2 q4 q5
            go_enter Tryz.func87, Tryz.ntmps87
            go_wp2
            refine bodyPost_ret (v := .tuple #[.agg (dskA x0 x1 x2 2 0 0 0 ⟨#[]⟩), .bool true]) (by simp [results, Tryz.results87, go_sem]) rfl ?_
            exact ⟨_, _, _, _, _, _, _, _, _, _, rfl, ⟨HD.out.1, HD.out.2.1, HD.out.2.2.1, ⟨by decide, by decide⟩, ⟨by decide, by decide⟩, ⟨by decide, by decide⟩, ⟨by decide, by decide⟩, by decide⟩, HL.out, (((HM.out.skip _).skip _).skip _)⟩
      · have y3 : (n == 1) = false := by rw [beq_eq_false_iff_ne]; exact q3
        by_cases q5 : 0 < s.size
        · have y5 : (0 : Int) < s.size := by omega
          clear hM hL q3 q5
          go_enter Tryz.func87, Tryz.ntmps87
          go_wp2
          refine bodyPost_ret (v := .tuple #[.agg (dskA x0 x1 x2 1 x4 x5 x6 x7), .bool false]) (by simp [results, Tryz.results87, go_sem]) rfl ?_
          exact ⟨_, _, _, _, _, _, _, _, _, _, rfl, HD.out, HL.out, (((HM.out.skip _).skip _).skip _)⟩
        · have y5 : ¬ (0 : Int) < s.size := by omega
          clear hM hL q3 q5
          go_enter Tryz.func87, Tryz.ntmps87
          go_wp2
          refine bodyPost_ret (v := .tuple #[.agg (dskA x0 x1 x2 3 0 0 0 ⟨#[]⟩), .bool true]) (by simp [results, Tryz.results87, go_sem]) rfl ?_
          exact ⟨_, _, _, _, _, _, _, _, _, _, rfl, ⟨HD.out.1, HD.out.2.1, HD.out.2.2.1, ⟨by decide, by decide⟩, ⟨by decide, by decide⟩, ⟨by decide, by decide⟩, ⟨by decide, by decide⟩, by decide⟩, HL.out, (((HM.out.skip _).skip _).skip _)⟩
  · have y1 : (x3 == 1) = false := by rw [beq_eq_false_iff_ne]; exact q1
    have y1n : (x3 != 1) = true := by rw [bne, y1]; rfl
    clear hM hL q1
    go_enter Tryz.func87, Tryz.ntmps87
    go_wp2
    refine bodyPost_ret (v := .tuple #[.agg (dskA x0 x1 x2 x3 x4 x5 x6 x7), .bool false]) (by simp [results, Tryz.results87, go_sem]) rfl ?_
    exact ⟨_, _, _, _, _, _, _, _, _, _, rfl, HD.out, HL.out, (((HM.out.skip _).skip _).skip _)⟩
end Ma
end Go.Proofs.YtdacgdokbfcgdaaGreat

namespace Go.Proofs.YtdacgdokbfcgdaaGreat
open Go.RowKit Go.BigFrame Go.Sort Go.Lib
namespace Ma
open As (Ins)
set_option maxHeartbeats 1000000 in
theorem pages_0 (A : Option Addr) (cap : Nat) (w : World) : Calls Tryz.prog 78 #[.slice A 0 cap] w fun e w' => e = .returned (.int .i64 0) ∧ w = w' := by
  go_enter Tryz.func78, Tryz.ntmps78
  go_wp2
  go_ret
  exact ⟨rfl, rfl⟩
set_option maxHeartbeats 4000000 in
theorem may_0 (C : List Int) (A : Option Addr) (cap : Nat) (d : Dv) (hC : CpuOK C) (w : World) : Calls Tryz.prog 60 #[macV C (.slice A 0 cap) d] w (fun e w' => e = .returned (.bool false) ∧ Held w w') := by
  have c25 := mc_mem (mv := .slice A 0 cap) (d := d) (X := []) hC.len
  have c17 := mc_cpu (mv := .slice A 0 cap) (d := d) (X := []) hC.len (j := 17) (by decide)
  have c18 := mc_cpu (mv := .slice A 0 cap) (d := d) (X := []) hC.len (j := 18) (by decide)
  have c19 := mc_cpu (mv := .slice A 0 cap) (d := d) (X := []) hC.len (j := 19) (by decide)
  have c20 := mc_cpu (mv := .slice A 0 cap) (d := d) (X := []) hC.len (j := 20) (by decide)
  have c21 := mc_cpu (mv := .slice A 0 cap) (d := d) (X := []) hC.len (j := 21) (by decide)
  have c22 := mc_cpu (mv := .slice A 0 cap) (d := d) (X := []) hC.len (j := 22) (by decide)
  have c23 := mc_cpu (mv := .slice A 0 cap) (d := d) (X := []) hC.len (j := 23) (by decide)
  have c24 := mc_cpu (mv := .slice A 0 cap) (d := d) (X := []) hC.len (j := 24) (by decide)
  have c0 := mc_cpu (mv := .slice A 0 cap) (d := d) (X := []) hC.len (j := 0) (by decide)
  have HP := Lib.hid fun w => pages_0 A cap w
  unfold macV
  generalize mcA C (.slice A 0 cap) d [] = cA at *
  clear hC
  go_enter Tryz.func60, Tryz.ntmps60
  go_wp2_with fail
  refine (HP.out _).mono ?_
  rintro e w3 ⟨rfl, rfl⟩
  go_wp2
  go_ret
  exact ⟨rfl, ((Held.refl w).alloc _).alloc _⟩
set_option maxHeartbeats 16000000 in
theorem may_any (C : List Int) (A : Option Addr) (cap : Nat) (d : Dv) (hC : CpuOK C) (hd : DvOK d) (w : World) : Calls Tryz.prog 60 #[macV C (.slice A 256 cap) d] w (BoolHeld w) := by
  have HCL := Lib.hid hC.len
  have HSZ : Is (mcA C (.slice A 256 cap) d []).size (49 + ([] : List Value).length) := ⟨mc_size hC.len⟩
  have c25 := mc_mem (mv := .slice A 256 cap) (d := d) (X := []) hC.len
  have c17 := mc_cpu (mv := .slice A 256 cap) (d := d) (X := []) hC.len (j := 17) (by decide)
  have c18 := mc_cpu (mv := .slice A 256 cap) (d := d) (X := []) hC.len (j := 18) (by decide)
  have c19 := mc_cpu (mv := .slice A 256 cap) (d := d) (X := []) hC.len (j := 19) (by decide)
  have c20 := mc_cpu (mv := .slice A 256 cap) (d := d) (X := []) hC.len (j := 20) (by decide)
  have c21 := mc_cpu (mv := .slice A 256 cap) (d := d) (X := []) hC.len (j := 21) (by decide)
  have c22 := mc_cpu (mv := .slice A 256 cap) (d := d) (X := []) hC.len (j := 22) (by decide)
  have c23 := mc_cpu (mv := .slice A 256 cap) (d := d) (X := []) hC.len (j := 23) (by decide)
  have c24 := mc_cpu (mv := .slice A 256 cap) (d := d) (X := []) hC.len (j := 24) (by decide)
  have c0 := mc_cpu (mv := .slice A 256 cap) (d := d) (X := []) hC.len (j := 0) (by decide)
  obtain ⟨a17, g17⟩ : ∃ a, C.getD 17 0 = a := ⟨_, rfl⟩
  rw [g17] at c17
  obtain ⟨a18, g18⟩ : ∃ a, C.getD 18 0 = a := ⟨_, rfl⟩
  rw [g18] at c18
  obtain ⟨a19, g19⟩ : ∃ a, C.getD 19 0 = a := ⟨_, rfl⟩
  rw [g19] at c19
  obtain ⟨a20, g20⟩ : ∃ a, C.getD 20 0 = a := ⟨_, rfl⟩
  rw [g20] at c20
  obtain ⟨a21, g21⟩ : ∃ a, C.getD 21 0 = a := ⟨_, rfl⟩
  rw [g21] at c21
  obtain ⟨a22, g22⟩ : ∃ a, C.getD 22 0 = a := ⟨_, rfl⟩
  rw [g22] at c22
  obtain ⟨a23, g23⟩ : ∃ a, C.getD 23 0 = a := ⟨_, rfl⟩
  rw [g23] at c23
  obtain ⟨a24, g24⟩ : ∃ a, C.getD 24 0 = a := ⟨_, rfl⟩
  rw [g24] at c24
  obtain ⟨a0, g0⟩ : ∃ a, C.getD 0 0 = a := ⟨_, rfl⟩
  rw [g0] at c0
  have c46 := mc_dv (mv := .slice A 256 cap) (X := []) hC.len (j := 20) (by decide) (v := .int .u64 d.cnt) rfl
  have c47 := mc_dv (mv := .slice A 256 cap) (X := []) hC.len (j := 21) (by decide) (v := .bool d.wai) rfl
  have c48 := mc_dv (mv := .slice A 256 cap) (X := []) hC.len (j := 22) (by decide) (v := .bool d.hal) rfl
  have HP := Lib.hid fun w => pages_any A cap w
  have HCM := Lib.hid fun w => conmay_any d.keys w
  have HTM := Lib.hid fun w => timmay_any d.ta d.tf d.td w
  have HDM := Lib.hid fun w => diskmay_any d.dbs d.dbl d.dfr d.dst d.dcm d.dob d.dof d.dod hd.dof w
  have HNM := Lib.hid fun w => nicmay_any d.nfr d.nln d.nbu d.ngo d.npo d.nrc hd.nbu w
  have HBM := Lib.hid fun w => balmay_any d.bta d.bgi w
  unfold BoolHeld at HCM HTM HDM HNM HBM
  have M0 := Lib.hid (((Mem.start w).allocF (b := w.heap.size) rfl (mcA C (.slice A 256 cap) d []) 57).allocF (b := w.heap.size + 1) (by simp) #[.int .u32 a17, .int .u32 a18, .int .u32 a19, .int .u32 a20, .int .u32 a21, .int .u32 a22, .int .u32 a23, .int .u32 a24] 42)
  clear hC hd g0 g17 g18 g19 g20 g21 g22 g23 g24
  cases k0 : (a0 != 0)
  rotate_left
  · go_enter Tryz.func60, Tryz.ntmps60
    go_wp2_with fail
    refine (HP.out _).mono ?_
    rintro e w3 ⟨rfl, rfl⟩
    go_wp2
    go_ret
    exact ⟨_, rfl, M0.out.held⟩
  · skip
    by_cases k1 : 31 < a17
    · go_enter Tryz.func60, Tryz.ntmps60
      go_wp2_with fail
      refine (HP.out _).mono ?_
      rintro e w3 ⟨rfl, rfl⟩
      go_wp2
      go_ret
      exact ⟨_, rfl, M0.out.held⟩
    · skip
      by_cases k2 : 31 < a24
      · go_enter Tryz.func60, Tryz.ntmps60
        go_wp2_with fail
        refine (HP.out _).mono ?_
        rintro e w3 ⟨rfl, rfl⟩
        go_wp2
        go_ret
        exact ⟨_, rfl, M0.out.held⟩
      · skip
        by_cases k3 : 255 < a23
        · go_enter Tryz.func60, Tryz.ntmps60
          go_wp2_with fail
          refine (HP.out _).mono ?_
          rintro e w3 ⟨rfl, rfl⟩
          go_wp2
          go_ret
          exact ⟨_, rfl, M0.out.held⟩
        · skip
          cases k4 : (a18.tmod 4 != 0)
          rotate_left
          · go_enter Tryz.func60, Tryz.ntmps60
            go_wp2_with fail
            refine (HP.out _).mono ?_
            rintro e w3 ⟨rfl, rfl⟩
            go_wp2
            go_ret
            exact ⟨_, rfl, M0.out.held⟩
          · skip
            go_enter Tryz.func60, Tryz.ntmps60
            go_wp2_with fail
            refine (HP.out _).mono ?_
            rintro e w3 ⟨rfl, rfl⟩
            go_wp2_with (first | (show wpList _ _ _ ((⟨_, Op.load 47 _, _, _, _, _⟩ : Oper) :: _) _ _; refine Mem.go_loadPart 47 rfl rfl 26 1 rfl 1 M0.out rfl uCon sCon (by rw [HSZ.out]; exact Nat.le_trans (by decide : 26 + 1 ≤ 49) (Nat.le_add_right _ _)) (take_con HCL.out) ?_) | (show wpList _ _ _ ((⟨_, Op.load 49 _, _, _, _, _⟩ : Oper) :: _) _ _; refine Mem.go_loadPart 49 rfl rfl 27 3 rfl 1 M0.out rfl uTim sTim (by rw [HSZ.out]; exact Nat.le_trans (by decide : 27 + 3 ≤ 49) (Nat.le_add_right _ _)) (take_tim HCL.out) ?_) | (show wpList _ _ _ ((⟨_, Op.load 51 _, _, _, _, _⟩ : Oper) :: _) _ _; refine Mem.go_loadPart 51 rfl rfl 30 8 rfl 1 M0.out rfl uDsk sDsk (by rw [HSZ.out]; exact Nat.le_trans (by decide : 30 + 8 ≤ 49) (Nat.le_add_right _ _)) (take_dsk HCL.out) ?_) | (show wpList _ _ _ ((⟨_, Op.load 53 _, _, _, _, _⟩ : Oper) :: _) _ _; refine Mem.go_loadPart 53 rfl rfl 38 6 rfl 1 M0.out rfl uNic sNic (by rw [HSZ.out]; exact Nat.le_trans (by decide : 38 + 6 ≤ 49) (Nat.le_add_right _ _)) (take_nic HCL.out) ?_) | (show wpList _ _ _ ((⟨_, Op.load 55 _, _, _, _, _⟩ : Oper) :: _) _ _; refine Mem.go_loadPart 55 rfl rfl 44 2 rfl 1 M0.out rfl uBal sBal (by rw [HSZ.out]; exact Nat.le_trans (by decide : 44 + 2 ≤ 49) (Nat.le_add_right _ _)) (take_bal HCL.out) ?_))
            refine (HCM.out _).mono ?_
            rintro e w5 ⟨b0, rfl, h0⟩
            have M5 := Lib.hid (M0.out.keep h0)
            clear h0 
            cases b0
            · go_wp2
              go_ret
              exact ⟨_, rfl, M5.out.held⟩
            · skip
              go_wp2_with (first | (show wpList _ _ _ ((⟨_, Op.load 47 _, _, _, _, _⟩ : Oper) :: _) _ _; refine Mem.go_loadPart 47 rfl rfl 26 1 rfl 1 M5.out rfl uCon sCon (by rw [HSZ.out]; exact Nat.le_trans (by decide : 26 + 1 ≤ 49) (Nat.le_add_right _ _)) (take_con HCL.out) ?_) | (show wpList _ _ _ ((⟨_, Op.load 47 _, _, _, _, _⟩ : Oper) :: _) _ _; refine Mem.go_loadPartG 47 rfl rfl 26 1 rfl 1 M5.out rfl uCon sCon (by rw [HSZ.out]; exact Nat.le_trans (by decide : 26 + 1 ≤ 49) (Nat.le_add_right _ _)) (take_con HCL.out) ?_) | (show wpList _ _ _ ((⟨_, Op.load 49 _, _, _, _, _⟩ : Oper) :: _) _ _; refine Mem.go_loadPartG 49 rfl rfl 27 3 rfl 1 M5.out rfl uTim sTim (by rw [HSZ.out]; exact Nat.le_trans (by decide : 27 + 3 ≤ 49) (Nat.le_add_right _ _)) (take_tim HCL.out) ?_) | (show wpList _ _ _ ((⟨_, Op.load 51 _, _, _, _, _⟩ : Oper) :: _) _ _; refine Mem.go_loadPartG 51 rfl rfl 30 8 rfl 1 M5.out rfl uDsk sDsk (by rw [HSZ.out]; exact Nat.le_trans (by decide : 30 + 8 ≤ 49) (Nat.le_add_right _ _)) (take_dsk HCL.out) ?_) | (show wpList _ _ _ ((⟨_, Op.load 53 _, _, _, _, _⟩ : Oper) :: _) _ _; refine Mem.go_loadPartG 53 rfl rfl 38 6 rfl 1 M5.out rfl uNic sNic (by rw [HSZ.out]; exact Nat.le_trans (by decide : 38 + 6 ≤ 49) (Nat.le_add_right _ _)) (take_nic HCL.out) ?_) | (show wpList _ _ _ ((⟨_, Op.load 55 _, _, _, _, _⟩ : Oper) :: _) _ _; refine Mem.go_loadPartG 55 rfl rfl 44 2 rfl 1 M5.out rfl uBal sBal (by rw [HSZ.out]; exact Nat.le_trans (by decide : 44 + 2 ≤ 49) (Nat.le_add_right _ _)) (take_bal HCL.out) ?_))
              refine (HTM.out _).mono ?_
              rintro e w6 ⟨b1, rfl, h1⟩
              have M6 := Lib.hid (M5.out.keep h1)
              clear h1 M5
              cases b1
              · go_wp2
                go_ret
                exact ⟨_, rfl, M6.out.held⟩
              · skip
                go_wp2_with (first | (show wpList _ _ _ ((⟨_, Op.load 47 _, _, _, _, _⟩ : Oper) :: _) _ _; refine Mem.go_loadPart 47 rfl rfl 26 1 rfl 1 M6.out rfl uCon sCon (by rw [HSZ.out]; exact Nat.le_trans (by decide : 26 + 1 ≤ 49) (Nat.le_add_right _ _)) (take_con HCL.out) ?_) | (show wpList _ _ _ ((⟨_, Op.load 47 _, _, _, _, _⟩ : Oper) :: _) _ _; refine Mem.go_loadPartG 47 rfl rfl 26 1 rfl 1 M6.out rfl uCon sCon (by rw [HSZ.out]; exact Nat.le_trans (by decide : 26 + 1 ≤ 49) (Nat.le_add_right _ _)) (take_con HCL.out) ?_) | (show wpList _ _ _ ((⟨_, Op.load 49 _, _, _, _, _⟩ : Oper) :: _) _ _; refine Mem.go_loadPartG 49 rfl rfl 27 3 rfl 1 M6.out rfl uTim sTim (by rw [HSZ.out]; exact Nat.le_trans (by decide : 27 + 3 ≤ 49) (Nat.le_add_right _ _)) (take_tim HCL.out) ?_) | (show wpList _ _ _ ((⟨_, Op.load 51 _, _, _, _, _⟩ : Oper) :: _) _ _; refine Mem.go_loadPartG 51 rfl rfl 30 8 rfl 1 M6.out rfl uDsk sDsk (by rw [HSZ.out]; exact Nat.le_trans (by decide : 30 + 8 ≤ 49) (Nat.le_add_right _ _)) (take_dsk HCL.out) ?_) | (show wpList _ _ _ ((⟨_, Op.load 53 _, _, _, _, _⟩ : Oper) :: _) _ _; refine Mem.go_loadPartG 53 rfl rfl 38 6 rfl 1 M6.out rfl uNic sNic (by rw [HSZ.out]; exact Nat.le_trans (by decide : 38 + 6 ≤ 49) (Nat.le_add_right _ _)) (take_nic HCL.out) ?_) | (show wpList _ _ _ ((⟨_, Op.load 55 _, _, _, _, _⟩ : Oper) :: _) _ _; refine Mem.go_loadPartG 55 rfl rfl 44 2 rfl 1 M6.out rfl uBal sBal (by rw [HSZ.out]; exact Nat.le_trans (by decide : 44 + 2 ≤ 49) (Nat.le_add_right _ _)) (take_bal HCL.out) ?_))
                refine (HDM.out _).mono ?_
                rintro e w7 ⟨b2, rfl, h2⟩
                have M7 := Lib.hid (M6.out.keep h2)
                clear h2 M6
                cases b2
                · go_wp2
                  go_ret
                  exact ⟨_, rfl, M7.out.held⟩
                · skip
                  go_wp2_with (first | (show wpList _ _ _ ((⟨_, Op.load 47 _, _, _, _, _⟩ : Oper) :: _) _ _; refine Mem.go_loadPart 47 rfl rfl 26 1 rfl 1 M7.out rfl uCon sCon (by rw [HSZ.out]; exact Nat.le_trans (by decide : 26 + 1 ≤ 49) (Nat.le_add_right _ _)) (take_con HCL.out) ?_) | (show wpList _ _ _ ((⟨_, Op.load 47 _, _, _, _, _⟩ : Oper) :: _) _ _; refine Mem.go_loadPartG 47 rfl rfl 26 1 rfl 1 M7.out rfl uCon sCon (by rw [HSZ.out]; exact Nat.le_trans (by decide : 26 + 1 ≤ 49) (Nat.le_add_right _ _)) (take_con HCL.out) ?_) | (show wpList _ _ _ ((⟨_, Op.load 49 _, _, _, _, _⟩ : Oper) :: _) _ _; refine Mem.go_loadPartG 49 rfl rfl 27 3 rfl 1 M7.out rfl uTim sTim (by rw [HSZ.out]; exact Nat.le_trans (by decide : 27 + 3 ≤ 49) (Nat.le_add_right _ _)) (take_tim HCL.out) ?_) | (show wpList _ _ _ ((⟨_, Op.load 51 _, _, _, _, _⟩ : Oper) :: _) _ _; refine Mem.go_loadPartG 51 rfl rfl 30 8 rfl 1 M7.out rfl uDsk sDsk (by rw [HSZ.out]; exact Nat.le_trans (by decide : 30 + 8 ≤ 49) (Nat.le_add_right _ _)) (take_dsk HCL.out) ?_) | (show wpList _ _ _ ((⟨_, Op.load 53 _, _, _, _, _⟩ : Oper) :: _) _ _; refine Mem.go_loadPartG 53 rfl rfl 38 6 rfl 1 M7.out rfl uNic sNic (by rw [HSZ.out]; exact Nat.le_trans (by decide : 38 + 6 ≤ 49) (Nat.le_add_right _ _)) (take_nic HCL.out) ?_) | (show wpList _ _ _ ((⟨_, Op.load 55 _, _, _, _, _⟩ : Oper) :: _) _ _; refine Mem.go_loadPartG 55 rfl rfl 44 2 rfl 1 M7.out rfl uBal sBal (by rw [HSZ.out]; exact Nat.le_trans (by decide : 44 + 2 ≤ 49) (Nat.le_add_right _ _)) (take_bal HCL.out) ?_))
                  refine (HNM.out _).mono ?_
                  rintro e w8 ⟨b3, rfl, h3⟩
                  have M8 := Lib.hid (M7.out.keep h3)
                  clear h3 M7
                  cases b3
                  · go_wp2
                    go_ret
                    exact ⟨_, rfl, M8.out.held⟩
                  · skip
                    go_wp2_with (first | (show wpList _ _ _ ((⟨_, Op.load 47 _, _, _, _, _⟩ : Oper) :: _) _ _; refine Mem.go_loadPart 47 rfl rfl 26 1 rfl 1 M8.out rfl uCon sCon (by rw [HSZ.out]; exact Nat.le_trans (by decide : 26 + 1 ≤ 49) (Nat.le_add_right _ _)) (take_con HCL.out) ?_) | (show wpList _ _ _ ((⟨_, Op.load 47 _, _, _, _, _⟩ : Oper) :: _) _ _; refine Mem.go_loadPartG 47 rfl rfl 26 1 rfl 1 M8.out rfl uCon sCon (by rw [HSZ.out]; exact Nat.le_trans (by decide : 26 + 1 ≤ 49) (Nat.le_add_right _ _)) (take_con HCL.out) ?_) | (show wpList _ _ _ ((⟨_, Op.load 49 _, _, _, _, _⟩ : Oper) :: _) _ _; refine Mem.go_loadPartG 49 rfl rfl 27 3 rfl 1 M8.out rfl uTim sTim (by rw [HSZ.out]; exact Nat.le_trans (by decide : 27 + 3 ≤ 49) (Nat.le_add_right _ _)) (take_tim HCL.out) ?_) | (show wpList _ _ _ ((⟨_, Op.load 51 _, _, _, _, _⟩ : Oper) :: _) _ _; refine Mem.go_loadPartG 51 rfl rfl 30 8 rfl 1 M8.out rfl uDsk sDsk (by rw [HSZ.out]; exact Nat.le_trans (by decide : 30 + 8 ≤ 49) (Nat.le_add_right _ _)) (take_dsk HCL.out) ?_) | (show wpList _ _ _ ((⟨_, Op.load 53 _, _, _, _, _⟩ : Oper) :: _) _ _; refine Mem.go_loadPartG 53 rfl rfl 38 6 rfl 1 M8.out rfl uNic sNic (by rw [HSZ.out]; exact Nat.le_trans (by decide : 38 + 6 ≤ 49) (Nat.le_add_right _ _)) (take_nic HCL.out) ?_) | (show wpList _ _ _ ((⟨_, Op.load 55 _, _, _, _, _⟩ : Oper) :: _) _ _; refine Mem.go_loadPartG 55 rfl rfl 44 2 rfl 1 M8.out rfl uBal sBal (by rw [HSZ.out]; exact Nat.le_trans (by decide : 44 + 2 ≤ 49) (Nat.le_add_right _ _)) (take_bal HCL.out) ?_))
                    refine (HBM.out _).mono ?_
                    rintro e w9 ⟨b4, rfl, h4⟩
                    have M9 := Lib.hid (M8.out.keep h4)
                    clear h4 M8
                    cases b4
                    · go_wp2
                      go_ret
                      exact ⟨_, rfl, M9.out.held⟩
                    · skip
                      have t46 := M9.out.cell 1 rfl 46 c46
                      have t47 := M9.out.cell 1 rfl 47 c47
                      have t48 := M9.out.cell 1 rfl 48 c48
                      by_cases hm : d.cnt ≤ 1152921504606846976
                      · cases hw : d.wai
                        · rw [hw] at t47
                          go_wp2
                          go_ret
                          exact ⟨_, rfl, M9.out.held⟩
                        · rw [hw] at t47
                          go_wp2
                          go_ret
                          exact ⟨_, rfl, M9.out.held⟩
                      · go_wp2
                        go_ret
                        exact ⟨_, rfl, M9.out.held⟩
end Ma
end Go.Proofs.YtdacgdokbfcgdaaGreat

namespace Go.Proofs.YtdacgdokbfcgdaaGreat
open Go.RowKit Go.BigFrame Go.Sort Go.Lib
namespace Ma
def CpyTo (n : Nat) (L : List Int) (w : World) (e : Ending) (w' : World) : Prop := ∃ g, e = .returned (.slice (some ⟨g, 0, none⟩) n n) ∧ Held w w' ∧ Own 40 1 uC w.heap.size w' (.slice (some ⟨g, 0, none⟩) n n) L
theorem uC_flat (L : List Int) : L.flatMap uC = L.map (fun (n : Int) => Value.int .u32 n) := by
  induction L with
  | nil => rfl
  | cons x l ih => rw [List.flatMap_cons, ih]; rfl
theorem slot_own {w : World} {base g n cap : Nat} {L L2 : List Int} (h : Own 40 1 uC base w (.slice (some ⟨g, 0, none⟩) n cap) L) : ∃ cur : Array Value, w.heap[g]? = some (.cells cur 40 (0, 0)) ∧ cur.size = cap ∧ base ≤ g ∧ n = L.length ∧ n ≤ cap ∧ cap ≤ maxLen := by
  rcases h.2 with ⟨he, h0⟩ | ⟨g', cp, cur, he, q1, q2, q3, q4, q5, q6⟩
  · injection he with he
    cases he
  · injection he with e1 e2 e3
    injection e1 with e1
    injection e1 with e1 _ _
    subst e1 e3
    exact ⟨cur, q2, by omega, q1, e2, by omega, q4⟩
set_option maxHeartbeats 2000000 in
theorem copy_any (n cap : Nat) (A : Option Addr) (L : List Int) (hn : n ≤ 1024) (w : World) (h : Sl 1 uC w A n L) : Calls Tryz.prog 84 #[.slice A n cap] w (CpyTo n L w) := by
  have HS := Lib.hid h
  have zn : (n : Int) ≤ 1024 := by omega
  have zn0 : (0 : Int) ≤ n := by omega
  clear h
  go_enter Tryz.func84, Tryz.ntmps84
  go_upto_region 2 with (at_make; refine Mem.wp_make (Mem.start w) rfl _ _ 45 rfl (.int .u32 0) 4 Tryz.underlying45 info_u32 (f := uC) 0 (by decide) uC_len rfl .i64 .i64 _ _ n rfl rfl rfl rfl (by omega) (by unfold maxLen; omega) ?_; intro w1 M1 h1; have M0 := Lib.hid M1; have H1 := Lib.hid h1; clear M1 h1)
  obtain ⟨cur, hcur, hsz, -, -, -, -⟩ := slot_own (L2 := []) (M0.out.row 0 rfl)
  have HC := Lib.hid (And.intro hcur hsz)
  clear hcur hsz
  have fin : ∀ (w' : World), w'.heap[w.heap.size]? = some (.cells (L.flatMap uC).toArray 40 (0, 0)) → Own 40 1 uC w.heap.size w' (.slice (some ⟨w.heap.size, 0, none⟩) n n) L := by
    intro w' hb
    have hl : (L.flatMap uC).length = n := by rw [flat_len uC_len, HS.out.1, Nat.mul_one]
    refine ⟨by rw [HS.out.1, Nat.mul_one]; exact hl, .inr ⟨w.heap.size, n, _, by rw [HS.out.1], Nat.le_refl _, hb, by rw [HS.out.1]; exact Nat.le_refl _, by unfold maxLen; omega, by simp only [List.size_toArray]; omega, ?_⟩⟩
    rw [HS.out.1, Nat.mul_one]
    exact List.take_of_length_le (by simpa using Nat.le_of_eq hl)
  have FIN := Lib.hid fin
  clear fin
  rcases Nat.eq_zero_or_pos n with h0 | hpos
  · subst h0
    have hL : L = [] := List.eq_nil_of_length_eq_zero HS.out.1
    subst hL
    have hcp := run_copy_none (P := Tryz.prog) w1 45 45 3 40 (some ⟨w.heap.size, 0, none⟩) A 0 0 0 cap Tryz.underlying45 (by kernel_rfl)
    go_wp2
    go_ret
    refine ⟨_, rfl, H1.out, FIN.out _ ?_⟩
    rw [HC.out.1]
    have : cur = #[] := Array.eq_empty_of_size_eq_zero HC.out.2
    rw [this]; rfl
  · obtain ⟨b, off, rfl, hb, hc⟩ : ∃ b off, A = some ⟨b, off, none⟩ ∧ b < w.heap.size ∧ ∀ j v, (L.flatMap uC)[j]? = some v → w.cell? ⟨b, off + j, none⟩ = some v := by
      rcases HS.out.2 with h | ⟨b, off, rfl, hb, hc⟩
      · omega
      · refine ⟨b, off, rfl, hb, fun j v hv => ?_⟩
        rw [uC_flat] at hv
        obtain ⟨hj, he⟩ := List.getElem?_eq_some_iff.1 hv
        rw [List.length_map] at hj
        have := hc j hj 0 v (by rw [List.getElem_map] at he; rw [← he]; rfl)
        rwa [Nat.mul_one, Nat.add_zero] at this
    have hl : (L.flatMap uC).length = n := by rw [flat_len uC_len, HS.out.1, Nat.mul_one]
    have HK := Lib.hid (And.intro hl (And.intro hb hc))
    clear hl hb hc hpos
    have hcp := run_copy_row (P := Tryz.prog) w1 45 45 3 40 w.heap.size 0 n n ⟨b, off, none⟩ n cap cur 40 (L.flatMap uC) Tryz.underlying45 (by kernel_rfl) HC.out.1 (by rw [HK.out.1]; simp) (fun j v hv => by rw [addr_add]; exact H1.out.cell (HK.out.2.2 j v hv)) (by rw [HK.out.1, HC.out.2]; omega) (fun v hv => by rw [uC_flat] at hv; obtain ⟨x, _, rfl⟩ := List.mem_map.1 hv; rfl)
    rw [HK.out.1] at hcp
    go_wp2
    go_ret
    refine ⟨_, rfl, below_setRow H1.out (Nat.le_refl _) _, FIN.out _ ?_⟩
    rw [setRow_heap _ _ _ _ _ _ HC.out.1, List.drop_of_length_le (by rw [Array.length_toList, HC.out.2]; exact Nat.le_refl _), List.append_nil]
end Ma
end Go.Proofs.YtdacgdokbfcgdaaGreat

namespace Go.Proofs.YtdacgdokbfcgdaaGreat
open Go.RowKit Go.BigFrame Go.Sort Go.Lib
namespace Ma
open As (Ins)
set_option maxHeartbeats 8000000 in
theorem stuck_any (C : List Int) (A : Option Addr) (cap : Nat) (d : Dv) (hC : CpuOK C) (hd : DvOK d) (w : World) : Calls Tryz.prog 103 #[macV C (.slice A 256 cap) d] w (BoolHeld w) := by
  have HCL := Lib.hid hC.len
  have HSZ : Is (mcA C (.slice A 256 cap) d []).size (49 + ([] : List Value).length) := ⟨mc_size hC.len⟩
  have c46 := mc_dv (mv := .slice A 256 cap) (X := []) hC.len (j := 20) (by decide) (v := .int .u64 d.cnt) rfl
  have c48 := mc_dv (mv := .slice A 256 cap) (X := []) hC.len (j := 22) (by decide) (v := .bool d.hal) rfl
  have HM := Lib.hid fun w => may_any C A cap d hC hd w
  have HI := Lib.hid fun w => idle_any C (.slice A 256 cap) d hC.len hd.bta w
  unfold BoolHeld at HM HI
  have M0 := Lib.hid ((Mem.start w).allocF (b := w.heap.size) rfl (mcA C (.slice A 256 cap) d []) 57)
  clear hC hd
  obtain ⟨cnt, hcn⟩ : ∃ c, d.cnt = c := ⟨_, rfl⟩
  rw [hcn] at c46
  go_enter Tryz.func103, Tryz.ntmps103
  go_wp2_with (show wpList _ _ _ ((⟨_, Op.load 57 _, _, _, _, _⟩ : Oper) :: _) _ _; refine Mem.go_loadPart 57 rfl rfl 0 49 rfl 0 M0.out rfl uMac sMac (by rw [HSZ.out]; exact Nat.le_trans (by decide : 0 + 49 ≤ 49) (Nat.le_add_right _ _)) (take_all HCL.out) ?_)
  refine (HM.out _).mono ?_
  rintro e w3 ⟨b1, rfl, h3⟩
  have M3 := Lib.hid (M0.out.keep h3)
  have e48 := M3.out.cell 0 rfl 48 c48
  have e46 := M3.out.cell 0 rfl 46 c46
  clear h3
  cases b1
  · go_wp2
    go_ret
    exact ⟨_, rfl, M3.out.held⟩
  · cases hh : d.hal
    rotate_left
    · rw [hh] at e48
      go_wp2
      go_ret
      exact ⟨_, rfl, M3.out.held⟩
    · rw [hh] at e48
      go_wp2_with (show wpList _ _ _ ((⟨_, Op.load 57 _, _, _, _, _⟩ : Oper) :: _) _ _; refine Mem.go_loadPartG 57 rfl rfl 0 49 rfl 0 M3.out rfl uMac sMac (by rw [HSZ.out]; exact Nat.le_trans (by decide : 0 + 49 ≤ 49) (Nat.le_add_right _ _)) (take_all HCL.out) ?_)
      refine (HI.out _).mono ?_
      rintro e w5 ⟨b2, rfl, h5⟩
      have M5 := Lib.hid (M3.out.keep h5)
      have x46 := M5.out.cell 0 rfl 46 c46
      clear h5
      cases b2
      · go_wp2
        go_ret
        exact ⟨_, rfl, M5.out.held⟩
      · go_wp2
        go_ret
        exact ⟨_, rfl, M5.out.held⟩
def RdTo (C : List Int) (d : Dv) (L : List Int) (w : World) (e : Ending) (w' : World) : Prop := ∃ bb : Bool, e = .returned (.bool bb) ∧ (bb = true → InNext (intrL C d) L) ∧ Held w w'
set_option maxHeartbeats 8000000 in
theorem reads_any (C : List Int) (A : Option Addr) (cap : Nat) (d : Dv) (L : List Int) (hC : CpuOK C) (hd : DvOK d) (hL : MemOK L) (hcap : 256 ≤ cap) (w : World) (h : Sl 1 uC w A 256 L) : Calls Tryz.prog 64 #[macV C (.slice A 256 cap) d] w (RdTo C d L w) := by
  have HCL := Lib.hid hC.len
  have HSZ : Is (mcA C (.slice A 256 cap) d []).size (49 + ([] : List Value).length) := ⟨mc_size hC.len⟩
  have c25 := mc_mem (mv := .slice A 256 cap) (d := d) (X := []) hC.len
  have HI := Lib.hid fun w => interrupted_any C (.slice A 256 cap) d hC hd.bta rfl w
  unfold CpuAt at HI
  have hCi := intrL_ok d hC
  unfold RdTo
  obtain ⟨Ci, hCe⟩ : ∃ Ci, intrL C d = Ci := ⟨_, rfl⟩
  rw [hCe] at HI hCi ⊢
  have c16 := wA_at (L := Ci) (j := 16) (by rw [hCi.len]; decide)
  have c17 := wA_at (L := Ci) (j := 17) (by rw [hCi.len]; decide)
  obtain ⟨pc, hpc, hpc2⟩ := wd_nat (hCi.at_ 16)
  rw [hpc] at c16
  obtain ⟨st, hst⟩ : ∃ st, Ci.getD 17 0 = st := ⟨_, rfl⟩
  rw [hst] at c17
  have HLD := Lib.hid fun (w' : World) (h' : Held w w') => load4 A cap pc L hpc2 hcap w' (h.held h')
  unfold LdTo at HLD
  have hwv : Wd (if inM pc 4 = true then L.getD (pc / 4) 0 else 0) := by
    split
    · exact Wds.getD hL.bd _
    · exact ⟨by decide, by decide⟩
  obtain ⟨n, hn0, hn⟩ := wd_nat hwv
  rw [hn0] at HLD
  have HDE := Lib.hid fun w => decode_any n hn w
  unfold DecTo at HDE
  have fin : (bits .and .u32 st 1 == 0) = false → inM pc 4 = true → ∀ x, dec n = some x → x.op = 60 → InNext Ci L := by
    intro h1 h2 x h3 h4
    rw [if_pos h2] at hn0
    have e1 : (Ci.getD 16 0).toNat = pc := by rw [hpc]; rfl
    refine ⟨by rw [hst]; exact h1, by rw [e1]; exact h2, x, ?_, h4⟩
    rw [e1, hn0]
    exact h3
  have FIN := Lib.hid fin
  have HWS : Is (wA Ci).size 25 := ⟨by rw [wA_size]; exact hCi.len⟩
  have M0 := Lib.hid ((Mem.start w).allocF (b := w.heap.size) rfl (mcA C (.slice A 256 cap) d []) 57)
  have HW1 := Lib.hid (wA_one Ci)
  generalize wA Ci = cI at *
  have zn : (n : Int) ≤ 4294967295 := by omega
  have zpc : (pc : Int) ≤ 4294967295 := by omega
  clear fin hwv hn0 hst hpc hC hd hL h hCi hCe
  go_enter Tryz.func64, Tryz.ntmps64
  go_wp2_with (show wpList _ _ _ ((⟨_, Op.load 57 _, _, _, _, _⟩ : Oper) :: _) _ _; refine Mem.go_loadPart 57 rfl rfl 0 49 rfl 0 M0.out rfl uMac sMac (by rw [HSZ.out]; exact Nat.le_trans (by decide : 0 + 49 ≤ 49) (Nat.le_add_right _ _)) (take_all HCL.out) ?_)
  refine (HI.out _).mono ?_
  rintro e w3 ⟨rfl, h3⟩
  have M3 := Lib.hid (M0.out.keep h3)
  have M9 := Lib.hid (M3.out.allocF (b := w3.heap.size) rfl z25 44)
  clear h3 M0
  go_upto_region 2 with (show wpList _ _ _ ((⟨_, Op.store 44 _ _, _, _, _, _⟩ : Oper) :: _) _ _; refine Mem.go_storeAll 44 rfl rfl rfl rfl 0 M9.out rfl (by rw [HWS.out]; exact sCpu) (by rw [HWS.out]; rfl) HW1.out ?_; intro w4 MM'; (try simp only [List.set_cons_zero, List.set_cons_succ] at MM'); have M4 := Lib.hid MM'; clear MM')
  have e16 := M4.out.cell 0 rfl 16 c16
  have e17 := M4.out.cell 0 rfl 17 c17
  cases k1 : (bits .and .u32 st 1 == 0)
  rotate_left
  · go_wp2
    go_ret
    exact ⟨false, rfl, (fun h => by cases h), M4.out.held⟩
  · have e25 := M4.out.cell 1 rfl 25 c25
    skip
    go_wp2_with fail
    refine (HLD.out _ M4.out.held).mono ?_
    rintro e w5 ⟨rfl, rfl⟩
    obtain ⟨dx, hdx⟩ : ∃ dx, dec n = dx := ⟨_, rfl⟩
    rw [hdx] at HDE FIN
    cases dx with
    | none =>
      dsimp only [insO, Option.isSome] at HDE
      go_wp2_with fail
      refine (HDE.out _).mono ?_
      rintro e w7 ⟨rfl, h7⟩
      have M7 := Lib.hid ((M4.out.keep h7).skip (.cells #[.int .i64 0, .int .i64 0, .int .i64 0, .int .i64 0, .int .i32 0] 123))
      clear h7
      cases hok : inM pc 4
      · skip
        go_wp2
        go_ret
        exact ⟨false, rfl, (fun h => by cases h), M7.out.held⟩
      · skip
        go_wp2
        go_ret
        exact ⟨false, rfl, (fun h => by cases h), M7.out.held⟩
    | some x =>
      obtain ⟨op, a, b, c, i⟩ := x
      dsimp only [insO, Option.isSome] at HDE
      go_wp2_with fail
      refine (HDE.out _).mono ?_
      rintro e w7 ⟨rfl, h7⟩
      have M7 := Lib.hid ((M4.out.keep h7).allocF (b := w7.heap.size) rfl #[.int .i64 (op : Int), .int .i64 (a : Int), .int .i64 (b : Int), .int .i64 (c : Int), .int .i32 i] 123)
      clear h7
      cases hok : inM pc 4
      · skip
        go_wp2
        go_ret
        exact ⟨false, rfl, (fun h => by cases h), M7.out.held⟩
      · skip
        by_cases h60 : op = 60
        · have z60 : ((op : Int) == 60) = true := by rw [h60]; rfl
          have FN := Lib.hid (FIN.out k1 hok _ rfl h60)
          clear h60 FIN
          go_wp2
          go_ret
          exact ⟨_, rfl, (fun _ => FN.out), M7.out.held⟩
        · have z60 : ((op : Int) == 60) = false := by rw [beq_eq_false_iff_ne]; omega
          clear h60
          go_wp2
          go_ret
          exact ⟨false, rfl, (fun h => by cases h), M7.out.held⟩
set_option maxHeartbeats 4000000 in
theorem readsclock_any (C : List Int) (A : Option Addr) (cap : Nat) (d : Dv) (L : List Int) (hC : CpuOK C) (hd : DvOK d) (hL : MemOK L) (hcap : 256 ≤ cap) (w : World) (h : Sl 1 uC w A 256 L) : Calls Tryz.prog 104 #[macV C (.slice A 256 cap) d] w (RdTo C d L w) := by
  have HCL := Lib.hid hC.len
  have HSZ : Is (mcA C (.slice A 256 cap) d []).size (49 + ([] : List Value).length) := ⟨mc_size hC.len⟩
  have HS := Lib.hid fun w => stuck_any C A cap d hC hd w
  have HR := Lib.hid fun (w' : World) (h' : Held w w') => reads_any C A cap d L hC hd hL hcap w' (h.held h')
  unfold BoolHeld at HS
  unfold RdTo at HR
  have M0 := Lib.hid ((Mem.start w).allocF (b := w.heap.size) rfl (mcA C (.slice A 256 cap) d []) 57)
  clear hC hd hL h
  go_enter Tryz.func104, Tryz.ntmps104
  go_wp2_with (show wpList _ _ _ ((⟨_, Op.load 57 _, _, _, _, _⟩ : Oper) :: _) _ _; refine Mem.go_loadPart 57 rfl rfl 0 49 rfl 0 M0.out rfl uMac sMac (by rw [HSZ.out]; exact Nat.le_trans (by decide : 0 + 49 ≤ 49) (Nat.le_add_right _ _)) (take_all HCL.out) ?_)
  refine (HS.out _).mono ?_
  rintro e w3 ⟨b1, rfl, h3⟩
  have M3 := Lib.hid (M0.out.keep h3)
  clear h3
  cases b1
  · go_wp2_with (show wpList _ _ _ ((⟨_, Op.load 57 _, _, _, _, _⟩ : Oper) :: _) _ _; refine Mem.go_loadPart 57 rfl rfl 0 49 rfl 0 M3.out rfl uMac sMac (by rw [HSZ.out]; exact Nat.le_trans (by decide : 0 + 49 ≤ 49) (Nat.le_add_right _ _)) (take_all HCL.out) ?_)
    refine (HR.out _ M3.out.held).mono ?_
    rintro e w5 ⟨bb, rfl, hb, h5⟩
    have M5 := Lib.hid (M3.out.keep h5)
    have HB := Lib.hid hb
    clear h5 hb
    go_wp2
    go_ret
    exact ⟨bb, rfl, HB.out, M5.out.held⟩
  · go_wp2
    go_ret
    exact ⟨false, rfl, (fun h => by cases h), M3.out.held⟩
abbrev z49 : Array Value := #[.int .u32 0, .int .u32 0, .int .u32 0, .int .u32 0, .int .u32 0, .int .u32 0, .int .u32 0, .int .u32 0, .int .u32 0, .int .u32 0, .int .u32 0, .int .u32 0, .int .u32 0, .int .u32 0, .int .u32 0, .int .u32 0, .int .u32 0, .int .u32 0, .int .u32 0, .int .u32 0, .int .u32 0, .int .u32 0, .int .u32 0, .int .u32 0, .int .u32 0, .slice none 0 0, .string ⟨#[]⟩, .bool false, .int .u32 0, .bool false, .int .u32 0, .int .u32 0, .int .u32 0, .int .i64 0, .int .i64 0, .int .u32 0, .int .u32 0, .string ⟨#[]⟩, .int .u32 0, .int .u32 0, .bool false, .int .u32 0, .bool false, .int .u32 0, .int .u32 0, .int .u32 0, .int .u64 0, .bool false, .bool false]
def OwnTo (C : List Int) (n : Nat) (d : Dv) (L : List Int) (w : World) (e : Ending) (w' : World) : Prop := ∃ g, e = .returned (macV C (.slice (some ⟨g, 0, none⟩) n n) d) ∧ Held w w' ∧ Own 40 1 uC w.heap.size w' (.slice (some ⟨g, 0, none⟩) n n) L
theorem load_mac {w : World} {b : Nat} {cs : Array Value} {t : TypeId} (hs : cs.size = 49) (h : w.heap[b]? = some (.cells cs t (0, 0))) : (loadVar 57 ⟨b, 0, none⟩).run Tryz.prog w = .ok (.agg cs) w := by
  obtain ⟨fs, hu⟩ := uMac
  have := Big.run_load (P := Tryz.prog) w b 0 49 t 57 cs (0, 0) _ h hu rfl sMac (by omega) cs.toList (by rw [List.drop_zero, List.take_of_length_le (by rw [Array.length_toList]; omega)])
  simpa using this
set_option maxHeartbeats 4000000 in
theorem own7_any (C : List Int) (A : Option Addr) (n cap : Nat) (d : Dv) (L : List Int) (hC : C.length = 25) (hn : n ≤ 1024) (w : World) (h : Sl 1 uC w A n L) : Calls Tryz.prog 61 #[macV C (.slice A n cap) d] w (OwnTo C n d L w) := by
  have HCL := Lib.hid hC
  have HSZ : Is (mcA C (.slice A n cap) d []).size 49 := ⟨mc_size hC⟩
  have c25 := mc_mem (mv := .slice A n cap) (d := d) (X := []) hC
  have HC := Lib.hid fun (w' : World) (h' : Held w w') => copy_any n cap A L hn w' (h.held h')
  unfold CpyTo at HC
  have M0 := Lib.hid (((Mem.start w).allocF (b := w.heap.size) rfl (mcA C (.slice A n cap) d []) 57).allocF (b := w.heap.size + 1) (by simp) z49 57)
  clear hC h
  go_enter Tryz.func61, Tryz.ntmps61
  go_wp2_with fail
  refine (HC.out _ M0.out.held).mono ?_
  rintro e w3 ⟨g, rfl, h3, hown⟩
  have M3 := Lib.hid (M0.out.ownF h3 hown)
  clear h3 hown
  have e25 := M3.out.cell 2 rfl 25 c25
  have f25 := M3.out.free 2 rfl 25
  have MM' := M3.out.put 2 rfl 25 (.slice (some ⟨g, 0, none⟩) n n)
  rw [set_mem HCL.out] at MM'
  have M4 := Lib.hid MM'
  clear MM'
  have HS4 := Lib.hid (mc_size (mv := .slice (some ⟨g, 0, none⟩) n n) (d := d) (X := []) HCL.out)
  go_wp2_with (first
    | (show wpList _ _ _ ((⟨_, Op.load 57 _, _, _, _, _⟩ : Oper) :: _) _ _; refine Mem.go_loadAll 57 rfl rfl rfl 2 M4.out rfl uMac (by rw [HS4.out]; exact sMac) ?_)
    | (show wpList _ _ _ ((⟨_, Op.store 57 _ _, _, _, _, _⟩ : Oper) :: _) _ _; refine Mem.go_storeAll 57 rfl rfl rfl rfl 1 M4.out rfl (by rw [HS4.out]; exact sMac) (by rw [HS4.out]; rfl) (mc_one _ rfl _ (by intro v hv; cases hv)) ?_; intro w5 M5'; have M5 := Lib.hid M5'; clear M5'))
  refine bodyPost_ret (Bx.res_c Tryz.results61 rfl (load_mac HS4.out (M5.out.blk 1 rfl))) rfl ?_
  exact ⟨g, rfl, M5.out.held, M5.out.row 0 rfl⟩
end Ma
end Go.Proofs.YtdacgdokbfcgdaaGreat

namespace Go.Proofs.YtdacgdokbfcgdaaGreat
open Go.RowKit Go.BigFrame Go.Sort Go.Lib
namespace Ma
abbrev balC (x0 g : Int) : Array Value := #[.int .u32 x0, .int .u32 g]
theorem load_bal {w : World} {b : Nat} {y0 y1 : Value} {t : TypeId} (h : w.heap[b]? = some (.cells #[y0, y1] t (0, 0))) : (loadVar 55 ⟨b, 0, none⟩).run Tryz.prog w = .ok (.agg #[y0, y1]) w := by
  obtain ⟨fs, hu⟩ := uBal
  exact Big.run_load (P := Tryz.prog) w b 0 2 t 55 #[y0, y1] (0, 0) _ h hu rfl sBal (by simp) [y0, y1] rfl
def GivTo (W : World) (g cap : Nat) (F : List Ck) (x0 : Int) (e : Ending) (w' : World) : Prop := ∃ (gi : Int) (L' : List Int), e = .returned (.agg (balC x0 gi)) ∧ Wd gi ∧ MemOK L' ∧ Mem W w' (memR W.heap.size g cap L' :: F)
theorem load_balM {W w : World} {H : List Ck} {i b : Nat} {y0 y1 : Value} {t : TypeId} (h : Mem W w H) (hi : H[i]? = some (.box b #[y0, y1] t)) : (loadVar 55 ⟨b, 0, none⟩).run Tryz.prog w = .ok (.agg #[y0, y1]) w := load_bal (h.blk i hi)
set_option maxHeartbeats 3000000 in
theorem give_any (W : World) (g cap : Nat) (x0 gi p : Int) (v : Nat) (hv : v < 4294967296) (hg : Wd gi) (L : List Int) (F : List Ck) (hL : MemOK L) (w : World) (hM : Mem W w (memR W.heap.size g cap L :: F)) :
    Calls Tryz.prog 130 #[.agg (balC x0 gi), .slice (some ⟨g, 0, none⟩) 256 cap, .int .i64 p, .int .u32 (v : Int)] w (GivTo W g cap F x0) := by
  have HP := Lib.hid fun w => page_any (some ⟨g, 0, none⟩) cap v hv w
  have HL := Lib.hid hL
  have HG := Lib.hid hg
  have zv : (v : Int) ≤ 4294967295 := by omega
  have zv0 : (0 : Int) ≤ v := by omega
  have HB := Lib.hid fun gi2 => (hM.allocF (b := w.heap.size) rfl (balC x0 gi2) 55).allocF (b := w.heap.size + 1) (by simp) (balC x0 gi2) 55
  clear hL hg
  have HN : ∀ gi2, Wd gi2 → ∃ gi3 L', Ending.returned (.agg (balC x0 gi2)) = .returned (.agg (balC x0 gi3)) ∧ Wd gi3 ∧ MemOK L' ∧ Mem W ((w.alloc (.cells (balC x0 gi2) 55)).alloc (.cells (balC x0 gi2) 55)) (memR W.heap.size g cap L' :: F) :=
    fun gi2 h => ⟨gi2, L, rfl, h, HL.out, (HB.out gi2).rest.rest⟩
  have HNN := Lib.hid HN
  clear HN
  by_cases hp : p = 10
  · subst hp
    by_cases h8 : v < 8
    · have z8 : decide (v < 8) = true := by simpa using h8
      rw [z8] at HP
      by_cases hk : (bits .and .u32 (gi / 2 ^ v) 1 == 0) = true
      · have M0 := Lib.hid ((hM.allocF (b := w.heap.size) rfl (balC x0 gi) 55).allocF (b := w.heap.size + 1) (by simp) (balC 0 0) 55)
        obtain ⟨⟨u0, u1⟩, ⟨v0, v1⟩, ub⟩ := M0.out.box2 1 rfl
        clear hM HNN HB z8
        go_enter Tryz.func130, Tryz.ntmps130
        go_wp2_with fail
        refine (HP.out _).mono ?_
        rintro e w3 ⟨rfl, h3⟩
        have M1' := M0.out
        rw [h3] at M1'
        have M1 := Lib.hid M1'
        clear M1' M0 h3 u0 u1 v0 v1 ub
        obtain ⟨⟨u0, u1⟩, ⟨v0, v1⟩, ub⟩ := M1.out.box2 1 rfl
        have MP := Lib.hid fun x => M1.out.put 1 rfl 1 (.int .u32 x)
        go_wp2
        go_loopw [9] (fun i wr => ∃ (q : Nat) (L1 : List Int) (gx : Int), i = .int .i64 (q : Int) ∧ q ≤ 32 ∧ MemOK L1 ∧ Wd gx ∧ Mem W wr (.box (w.heap.size + 1) (balC 0 0) 55 :: .box w.heap.size (balC x0 gx) 55 :: memR W.heap.size g cap L1 :: F)) (fun i _ => 32 - (RowKit.intOf i).toNat)
        case atStart => exact ⟨0, L, _, rfl, by decide, HL.out, (by first | exact bits_wd _ _ _ | exact mod_wd _), MP.out _⟩
        case round =>
          clear MP M1 u0 u1 v0 v1 ub
          obtain ⟨q, L1, gx, rfl, hq, hok, hgx, hM1⟩ := hrel
          have M := Lib.hid hM1
          have HOK := Lib.hid hok
          have HGX := Lib.hid hgx
          obtain ⟨⟨u0, u1⟩, ⟨v0, v1⟩, ub⟩ := M.out.box2 1 rfl
          clear hM1 hok hgx
          by_cases h32 : q < 32
          · have y1 : (q : Int) < 32 := by omega
            have y0 : (0 : Int) ≤ q := by omega
            obtain ⟨a, ha⟩ : ∃ a, v * 32 + q = a := ⟨_, rfl⟩
            have ya : (v : Int) * 32 + (q : Int) = (a : Int) := by omega
            have ha2 : a < 256 := by omega
            have za : (a : Int) < 256 := by omega
            have za0 : (0 : Int) ≤ a := by omega
            have yw : IntKind.i64.wrap (v : Int) = v := IntWalk.i64_in _ ⟨by omega, by omega⟩
            obtain ⟨hgl, c0, f0⟩ := memAt M.out.up2 HOK.out ha2
            have MZ := Lib.hid (memPut M.out.up2 HOK.out ha2 0)
            have HOK2 := Lib.hid (HOK.out.set (j := a) (v := 0) ⟨by decide, by decide⟩)
            clear ha ha2 hq
            go_wp2
            go_roundw
            case rel => exact ⟨q + 1, _, gx, by go_num, by omega, HOK2.out, HGX.out, MZ.out.dn2⟩
            case measure => (simp [RowKit.intOf]) <;> omega
          · have y1 : ¬ (q : Int) < 32 := by omega
            go_wp2_with (first
              | (show wpList _ _ _ ((⟨_, Op.load 55 _, _, _, _, _⟩ : Oper) :: _) _ _; refine Mem.go_loadAll 55 rfl rfl rfl 1 M.out rfl uBal sBal ?_)
              | (show wpList _ _ _ ((⟨_, Op.store 55 _ _, _, _, _, _⟩ : Oper) :: _) _ _; refine Mem.go_storeAll 55 rfl rfl rfl rfl 0 M.out rfl sBal rfl (by intro v hv; simp at hv; rcases hv with rfl | rfl <;> rfl) ?_; intro w4 M4'; have M4 := Lib.hid M4'; clear M4'))
            refine bodyPost_ret (Bx.res_c Tryz.results130 rfl (load_balM (i := 0) M4.out rfl)) rfl ?_
            exact ⟨gx, L1, rfl, HGX.out, HOK.out, M4.out.rest.rest⟩
      · have hk2 : (bits .and .u32 (gi / 2 ^ v) 1 == 0) = false := by simpa using hk
        clear hk hM HB z8
        go_enter Tryz.func130, Tryz.ntmps130
        go_wp2_with fail
        refine (HP.out _).mono ?_
        rintro e w3 ⟨rfl, rfl⟩
        go_wp2
        refine bodyPost_ret (v := .agg (balC x0 gi)) (by simp [results, Tryz.results130, go_sem]) rfl ?_
        exact HNN.out _ HG.out
    · have z8 : decide (v < 8) = false := by simpa using h8
      rw [z8] at HP
      clear hM HB z8
      go_enter Tryz.func130, Tryz.ntmps130
      go_wp2_with fail
      refine (HP.out _).mono ?_
      rintro e w3 ⟨rfl, rfl⟩
      go_wp2
      refine bodyPost_ret (v := .agg (balC x0 gi)) (by simp [results, Tryz.results130, go_sem]) rfl ?_
      exact HNN.out _ HG.out
  · have z : (p == 10) = false := by rw [beq_eq_false_iff_ne]; exact hp
    by_cases hp1 : p = 11
    · subst hp1
      by_cases h32 : (v : Int) < 32
      · clear hM HB hp z
        go_enter Tryz.func130, Tryz.ntmps130
        go_wp2
        refine bodyPost_ret (v := .agg (balC x0 _)) (by simp [results, Tryz.results130, go_sem]; rfl) rfl ?_
        exact HNN.out _ (bits_wd _ _ _)
      · clear hM HB hp z
        go_enter Tryz.func130, Tryz.ntmps130
        go_wp2
        refine bodyPost_ret (v := .agg (balC x0 gi)) (by simp [results, Tryz.results130, go_sem]) rfl ?_
        exact HNN.out _ HG.out
    · have z1 : (p == 11) = false := by rw [beq_eq_false_iff_ne]; exact hp1
      clear hM HB hp hp1
      go_enter Tryz.func130, Tryz.ntmps130
      go_wp2
      refine bodyPost_ret (v := .agg (balC x0 gi)) (by simp [results, Tryz.results130, go_sem]) rfl ?_
      exact HNN.out _ HG.out
end Ma
end Go.Proofs.YtdacgdokbfcgdaaGreat

namespace Go.Proofs.YtdacgdokbfcgdaaGreat
open Go.RowKit Go.BigFrame Go.Sort Go.Lib
namespace Ma
abbrev macB (b : Nat) (T : TypeId) (C : List Int) (mv : Value) (d : Dv) (X : List Value) : Ck := .box b (mcA C mv d X) T
def InTo (W : World) (b : Nat) (T : TypeId) (C : List Int) (mv : Value) (d : Dv) (X : List Value) (R : List Ck) (e : Ending) (w' : World) : Prop :=
  ∃ (z : Int) (s : ByteArray), e = .returned (.int .u32 z) ∧ Wd z ∧ s.size ≤ 16 ∧ Mem W w' (macB b T C mv { d with keys := s } X :: R)
set_option maxHeartbeats 4000000 in
theorem in_any (W : World) (b : Nat) (T : TypeId) (C : List Int) (mv : Value) (d : Dv) (X : List Value) (R : List Ck) (p clk : Int) (hk : Wd clk) (hC : C.length = 25) (hd : DvOK d) (w : World) (hM : Mem W w (macB b T C mv d X :: R)) :
    Calls Tryz.prog 94 #[.pointer (some ⟨b, 0, none⟩), .int .i64 p, .int .u32 clk] w (InTo W b T C mv d X R) := by
  have HCL := Lib.hid hC
  have HSZ : Is (mcA C mv d X).size (49 + X.length) := ⟨mc_size hC⟩
  have M0 := Lib.hid hM
  have HD := Lib.hid hd
  have HK := Lib.hid hk
  have HCI := Lib.hid fun w => conin_any d.keys p hd.keys w
  have HTI := Lib.hid fun w => timin_any d.ta d.tf d.td w
  have HDI := Lib.hid fun w => diskin_any d.dbs d.dbl d.dfr d.dst d.dcm d.dob d.dof d.dod p hd.dbl hd.dfr w
  have HNI := Lib.hid fun w => nicin_any d.nfr d.nln d.nbu d.ngo d.npo d.nrc p hd.nfr hd.ngo w
  have HBI := Lib.hid fun w => balin_any d.bta d.bgi p hd.bta (fun w => (given_any d.bta d.bgi w).mono fun e w' h => ⟨_, h.1, h.2⟩) w
  unfold ConTo at HCI
  unfold WdHeld at HTI HDI HNI HBI
  clear hM hd hC hk
  by_cases h1 : p ≤ 1
  · go_enter Tryz.func94, Tryz.ntmps94
    go_wp2_with (show wpList _ _ _ ((⟨_, Op.load 47 _, _, _, _, _⟩ : Oper) :: _) _ _; refine Mem.go_loadPart 47 rfl rfl 26 1 rfl 0 M0.out rfl uCon sCon (by rw [HSZ.out]; exact Nat.le_trans (by decide : 26 + 1 ≤ 49) (Nat.le_add_right _ _)) (take_con HCL.out) ?_)
    refine (HCI.out _).mono ?_
    rintro e w3 ⟨s, z, rfl, hs, hz, h3⟩
    have M3 := Lib.hid (M0.out.keep h3)
    have HZ := Lib.hid (And.intro hz hs)
    clear h3 hz hs
    go_wp2_with (show wpList _ _ _ ((⟨_, Op.store 47 _ _, _, _, _, _⟩ : Oper) :: _) _ _; refine Mem.go_storePart 47 rfl rfl 26 (news := #[.string s]) rfl rfl 0 M3.out rfl sCon (by rw [HSZ.out]; exact Nat.le_trans (by decide : 26 + 1 ≤ 49) (Nat.le_add_right _ _)) (by intro v hv; simp at hv; subst hv; rfl) ?_; intro w4 M4'; rw [patch_con HCL.out] at M4'; have M4 := Lib.hid M4'; clear M4')
    go_ret
    exact ⟨z, s, rfl, HZ.out.1, HZ.out.2, M4.out⟩
  · by_cases h2 : p = 2
    · subst h2
      go_enter Tryz.func94, Tryz.ntmps94
      go_wp2
      go_ret
      exact ⟨clk, d.keys, rfl, HK.out, HD.out.keys, M0.out⟩
    · have z2 : (p == 2) = false := by rw [beq_eq_false_iff_ne]; exact h2
      by_cases h3 : p = 3
      · subst h3
        go_enter Tryz.func94, Tryz.ntmps94
        go_wp2_with (show wpList _ _ _ ((⟨_, Op.load 49 _, _, _, _, _⟩ : Oper) :: _) _ _; refine Mem.go_loadPart 49 rfl rfl 27 3 rfl 0 M0.out rfl uTim sTim (by rw [HSZ.out]; exact Nat.le_trans (by decide : 27 + 3 ≤ 49) (Nat.le_add_right _ _)) (take_tim HCL.out) ?_)
        refine (HTI.out _).mono ?_
        rintro e w3 ⟨z, rfl, hz, h3⟩
        have M3 := Lib.hid (M0.out.keep h3)
        have HZ := Lib.hid hz
        clear h3 hz
        go_wp2
        go_ret
        exact ⟨z, d.keys, rfl, HZ.out, HD.out.keys, M3.out⟩
      · have z3 : (p == 3) = false := by rw [beq_eq_false_iff_ne]; exact h3
        clear h2 h3
        by_cases h6 : p ≤ 6
        · go_enter Tryz.func94, Tryz.ntmps94
          go_wp2_with (show wpList _ _ _ ((⟨_, Op.load 51 _, _, _, _, _⟩ : Oper) :: _) _ _; refine Mem.go_loadPart 51 rfl rfl 30 8 rfl 0 M0.out rfl uDsk sDsk (by rw [HSZ.out]; exact Nat.le_trans (by decide : 30 + 8 ≤ 49) (Nat.le_add_right _ _)) (take_dsk HCL.out) ?_)
          refine (HDI.out _).mono ?_
          rintro e w3 ⟨z, rfl, hz, h3⟩
          have M3 := Lib.hid (M0.out.keep h3)
          have HZ := Lib.hid hz
          clear h3 hz
          go_wp2
          go_ret
          exact ⟨z, d.keys, rfl, HZ.out, HD.out.keys, M3.out⟩
        · by_cases h9 : p ≤ 9
          · go_enter Tryz.func94, Tryz.ntmps94
            go_wp2_with (show wpList _ _ _ ((⟨_, Op.load 53 _, _, _, _, _⟩ : Oper) :: _) _ _; refine Mem.go_loadPart 53 rfl rfl 38 6 rfl 0 M0.out rfl uNic sNic (by rw [HSZ.out]; exact Nat.le_trans (by decide : 38 + 6 ≤ 49) (Nat.le_add_right _ _)) (take_nic HCL.out) ?_)
            refine (HNI.out _).mono ?_
            rintro e w3 ⟨z, rfl, hz, h3⟩
            have M3 := Lib.hid (M0.out.keep h3)
            have HZ := Lib.hid hz
            clear h3 hz
            go_wp2
            go_ret
            exact ⟨z, d.keys, rfl, HZ.out, HD.out.keys, M3.out⟩
          · go_enter Tryz.func94, Tryz.ntmps94
            go_wp2_with (show wpList _ _ _ ((⟨_, Op.load 55 _, _, _, _, _⟩ : Oper) :: _) _ _; refine Mem.go_loadPart 55 rfl rfl 44 2 rfl 0 M0.out rfl uBal sBal (by rw [HSZ.out]; exact Nat.le_trans (by decide : 44 + 2 ≤ 49) (Nat.le_add_right _ _)) (take_bal HCL.out) ?_)
            refine (HBI.out _).mono ?_
            rintro e w3 ⟨z, rfl, hz, h3⟩
            have M3 := Lib.hid (M0.out.keep h3)
            have HZ := Lib.hid hz
            clear h3 hz
            go_wp2
            go_ret
            exact ⟨z, d.keys, rfl, HZ.out, HD.out.keys, M3.out⟩
end Ma
end Go.Proofs.YtdacgdokbfcgdaaGreat
