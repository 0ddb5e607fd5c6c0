/-
  Contracts: a valid tree is found valid (chapter 41), by the program.
-/
import Derived.Test.YtncgihbnfmpdbaaSnH
set_option linter.unusedVariables false
set_option linter.unusedSimpArgs false
set_option maxRecDepth 100000
namespace Go.Proofs.Ytncgihbnfmpdbaa
open Go.RowKit
namespace Sn
set_option maxHeartbeats 2000000 in
theorem valid_any (Ab : Option Addr) (nb cb : Nat) (An : Option Addr) (nn cn : Nat) (T : Tr) (w : World) (h : TrR w Ab nb An nn T) (hv : Ok T) :
    Calls Try.prog 14 #[.agg #[.slice Ab nb cb, .slice An nn cn]] w fun e w' => e = .returned (.bool true) ∧ Held w w' := by
  have HT := Lib.hid h
  have hnn := h.nn
  have hbl : T.base.length = nb := h.bs.1
  have hb1 := hv.base1
  have hb2 := hv.base2
  have hn12 := hv.nods
  have M0 := Lib.hid ((Mem.start w).alloc #[.slice Ab nb cb, .slice An nn cn] 27)
  have HV := Lib.hid hv
  rw [hbl] at hb1 hb2
  rw [hnn] at hn12
  have j0 : ¬ (nb : Int) < 1 := by omega
  have j1 : ¬ (64 : Int) < (nb : Int) := by omega
  have j2 : ¬ (12 : Int) < (nn : Int) := by omega
  clear h hv
  go_enter Try.func14, Try.ntmps14
  go_wp2
  go_loopw [25] (fun i wr => ∃ k : Nat, i = .int .i64 k ∧ k ≤ nb ∧ Held (w.alloc (.cells #[.slice Ab nb cb, .slice An nn cn] 27)) wr) (fun i _ => nb - (intOf i).toNat)
  case atStart => exact ⟨0, rfl, Nat.zero_le _, Held.refl _⟩
  case round =>
    obtain ⟨k, rfl, hk, hw⟩ := hrel
    have HW := Lib.hid hw
    have M1 := Lib.hid (M0.out.keep hw)
    clear hw
    by_cases hlt : (k : Int) < nb
    · obtain ⟨b, off, s, rfl, lb, hs, x0⟩ := st_at HT.out.bs M1.out.held (k := k) (by omega)
      have hz : ((s.size : Int) != 128) = false := by rw [HV.out.base3 s (List.mem_of_getElem? hs)]; rfl
      clear hs
      go_wp2
      go_roundw
      case rel => exact ⟨k + 1, by go_num, by omega, HW.out⟩
      case measure => (simp [intOf]) <;> omega
    · obtain ⟨⟨u0, u1⟩, _, ult⟩ := M1.out.box2 0 rfl
      go_wp2
      obtain ⟨wA, hwA⟩ : ∃ wA, wA = wr := ⟨_, rfl⟩
      rw [← hwA] at M1 u0 u1 ult ⊢
      clear hwA HW
      go_loopw [36] (fun i w2 => ∃ k : Nat, i = .int .i64 k ∧ k ≤ nn ∧ Held wA w2) (fun i _ => nn - (intOf i).toNat)
      case atStart => exact ⟨0, rfl, Nat.zero_le _, Held.refl _⟩
      case round =>
        obtain ⟨m, rfl, hm, hw⟩ := hrel
        have M2 := Lib.hid (M1.out.keep hw)
        have HW := Lib.hid hw
        clear hw u0 u1 ult
        obtain ⟨⟨u0, u1⟩, _, ult⟩ := M2.out.box2 0 rfl
        by_cases hlm : (m : Int) < nn
        · go_wp2_with (go_at_call 37; refine (vnode_any Ab nb cb An nn cn T m _ (HT.out.held M2.out.held) HV.out (by omega)).mono ?_; rintro e w4 ⟨rfl, h4⟩)
          go_roundw
          case rel => exact ⟨m + 1, by go_num, by omega, HW.out.step h4⟩
          case measure => (simp [intOf]) <;> omega
        · go_wp2
          go_ret
          exact ⟨rfl, M2.out.held⟩
end Sn
end Go.Proofs.Ytncgihbnfmpdbaa
