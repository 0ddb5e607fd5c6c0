/-
  Contracts: has, Read, Size, View, New (chapter 41), of the program.
-/
import Derived.Test.YtncgihbnfmpdbaaSnJ
set_option linter.unusedVariables false
set_option linter.unusedSimpArgs false
set_option maxRecDepth 100000
namespace Go.Proofs.Ytncgihbnfmpdbaa
open Go.RowKit
namespace Sn
def hasB (T : Tr) (n : Int) : Bool := decide (n = -1) || ex T.nodes n
theorem hasB_range {T : Tr} {n : Int} (h : hasB T n = true) : -1 ≤ n ∧ n < T.nodes.length := by
  unfold hasB at h
  rw [Bool.or_eq_true, decide_eq_true_eq] at h
  rcases h with h | h
  · omega
  · obtain ⟨i, x, rfl, hx, _⟩ := ex_iff.1 h
    have := (List.getElem?_eq_some_iff.1 hx).1
    omega
theorem ok_dl {T : Tr} (h : Ok T) : ∀ (i : Nat) (x : Nd), T.nodes[i]? = some x → (x.ds.length : Int) ≤ 64 := fun i x hx => by
  have := ds_len (h.node i x hx).ds
  have := h.base2
  omega
set_option maxHeartbeats 2000000 in
theorem has_any (Ab : Option Addr) (nb cb : Nat) (An : Option Addr) (nn cn : Nat) (T : Tr) (n : Int) (w : World) (h : TrR w Ab nb An nn T) (hv : Ok T) :
    Calls Try.prog 25 #[.agg #[.slice Ab nb cb, .slice An nn cn], .int .i64 n] w fun e w' => e = .returned (.bool (hasB T n)) ∧ Held w w' := by
  have M0 := Lib.hid ((Mem.start w).alloc #[.slice Ab nb cb, .slice An nn cn] 27)
  have HVA := Lib.hid (fun w' (q : Held w w') => valid_any Ab nb cb An nn cn T w' (h.held q) hv)
  have HEX := Lib.hid (fun w' (q : Held w w') => exists_any Ab nb cb An nn cn T n w' (h.held q))
  clear h hv
  by_cases hn : n = -1
  · have HP : Hid (hasB T n = true) := show _ = _ by unfold hasB; simp [hn]
    have hb : (n == -1) = true := by simp [hn]
    clear hn
    go_enter Try.func25, Try.ntmps25
    go_wp2_with (go_at_call 14; refine (HVA.out _ M0.out.held).mono ?_; rintro e w1 ⟨rfl, h1⟩)
    go_ret
    exact ⟨ret_b HP.out.symm, M0.out.held.step h1⟩
  · have HP : Hid (hasB T n = ex T.nodes n) := show _ = _ by unfold hasB; simp [hn]
    have hb : (n == -1) = false := by simp [hn]
    clear hn
    go_enter Try.func25, Try.ntmps25
    go_wp2_with (first | (go_at_call 14; refine (HVA.out _ M0.out.held).mono ?_; rintro e w1 ⟨rfl, h1⟩; have M1 := Lib.hid (M0.out.keep h1); obtain ⟨⟨u0, u1⟩, _, ult⟩ := M1.out.box2 0 rfl) | (go_at_call 39; refine (HEX.out _ M1.out.held).mono ?_; rintro e w2 ⟨rfl, h2⟩))
    go_ret
    exact ⟨ret_b HP.out.symm, M1.out.held.step h2⟩
def readR (T : Tr) (n b : Int) : ByteArray × Bool := if hasB T n = true ∧ 0 ≤ b ∧ b < T.base.length then (sees T n b, true) else (⟨#[]⟩, false)
theorem readR_no {T : Tr} {n b : Int} (h : ¬ (hasB T n = true ∧ 0 ≤ b ∧ b < T.base.length)) : readR T n b = (⟨#[]⟩, false) := if_neg h
theorem readR_yes {T : Tr} {n b : Int} (h : hasB T n = true ∧ 0 ≤ b ∧ b < T.base.length) : readR T n b = (sees T n b, true) := if_pos h
theorem ret_sb {p : ByteArray × Bool} {a : ByteArray} {b : Bool} (h : p = (a, b)) : Ending.returned (.tuple #[.string a, .bool b]) = .returned (.tuple #[.string p.1, .bool p.2]) := by rw [h]
set_option maxHeartbeats 2000000 in
theorem read_any (Ab : Option Addr) (nb cb : Nat) (An : Option Addr) (nn cn : Nat) (T : Tr) (n b : Int) (w : World) (h : TrR w Ab nb An nn T) (hv : Ok T) :
    Calls Try.prog 10 #[.agg #[.slice Ab nb cb, .slice An nn cn], .int .i64 n, .int .i64 b] w fun e w' => e = .returned (.tuple #[.string (readR T n b).1, .bool (readR T n b).2]) ∧ Held w w' := by
  have M0 := Lib.hid ((Mem.start w).alloc #[.slice Ab nb cb, .slice An nn cn] 27)
  have HHA := Lib.hid (fun w' (q : Held w w') => has_any Ab nb cb An nn cn T n w' (h.held q) hv)
  have hnn := h.nn
  have hbl := h.bs.1
  obtain ⟨hb, hhb⟩ : ∃ q, hasB T n = q := ⟨_, rfl⟩
  cases hb
  · have HP := Lib.hid (readR_no (T := T) (n := n) (b := b) (by rw [hhb]; simp))
    rw [hhb] at HHA
    clear h hv hhb
    go_enter Try.func10, Try.ntmps10
    go_wp2_with (go_at_call 25; refine (HHA.out _ M0.out.held).mono ?_; rintro e w1 ⟨rfl, h1⟩; have M1 := Lib.hid (M0.out.keep h1); obtain ⟨⟨u0, u1⟩, _, ult⟩ := M1.out.box2 0 rfl)
    go_ret2
    exact ⟨ret_sb HP.out, M1.out.held⟩
  · have hr := hasB_range hhb
    rw [hnn] at hr
    have hdn := ok_dl hv
    by_cases h0 : b < 0
    · have HP := Lib.hid (readR_no (T := T) (n := n) (b := b) (by omega))
      rw [hhb] at HHA
      clear h hv hhb hdn
      go_enter Try.func10, Try.ntmps10
      go_wp2_with (go_at_call 25; refine (HHA.out _ M0.out.held).mono ?_; rintro e w1 ⟨rfl, h1⟩; have M1 := Lib.hid (M0.out.keep h1); obtain ⟨⟨u0, u1⟩, _, ult⟩ := M1.out.box2 0 rfl)
      go_ret2
      exact ⟨ret_sb HP.out, M1.out.held⟩
    obtain ⟨k, rfl⟩ := Int.eq_ofNat_of_zero_le (by omega : 0 ≤ b)
    by_cases h9 : (nb : Int) ≤ (k : Int)
    · have HP := Lib.hid (readR_no (T := T) (n := n) (b := k) (by omega))
      rw [hhb] at HHA
      clear h hv hhb hdn
      go_enter Try.func10, Try.ntmps10
      go_wp2_with (go_at_call 25; refine (HHA.out _ M0.out.held).mono ?_; rintro e w1 ⟨rfl, h1⟩; have M1 := Lib.hid (M0.out.keep h1); obtain ⟨⟨u0, u1⟩, _, ult⟩ := M1.out.box2 0 rfl)
      go_ret2
      exact ⟨ret_sb HP.out, M1.out.held⟩
    have HP := Lib.hid (readR_yes (T := T) (n := n) (b := k) ⟨hhb, by omega, by omega⟩)
    have HSE := Lib.hid (fun w' (q : Held w w') => see_any Ab nb cb An nn cn T n k w' (h.held q) hv hr.1 hr.2 (by omega) (fun i x hx => Int.le_trans (hdn i x hx) (by decide)))
    rw [hhb] at HHA
    clear h hv hhb hdn
    go_enter Try.func10, Try.ntmps10
    go_wp2_with (first | (go_at_call 25; refine (HHA.out _ M0.out.held).mono ?_; rintro e w1 ⟨rfl, h1⟩; have M1 := Lib.hid (M0.out.keep h1); obtain ⟨⟨u0, u1⟩, _, ult⟩ := M1.out.box2 0 rfl) | (go_at_call 26; refine (HSE.out _ M1.out.held).mono ?_; rintro e w2 ⟨rfl, h2⟩))
    go_ret2
    exact ⟨ret_sb HP.out, M1.out.held.step h2⟩
def sizeTo (N : List Nd) : Nat → Nat
  | 0 => 0
  | k + 1 => sizeTo N k + (match N[k]? with | some x => x.ds.length | none => 0)
theorem sizeTo_next {N : List Nd} {k : Nat} {x : Nd} (h : N[k]? = some x) : sizeTo N (k + 1) = sizeTo N k + x.ds.length := by rw [sizeTo, h]
set_option maxHeartbeats 2000000 in
theorem size_any (Ab : Option Addr) (nb cb : Nat) (An : Option Addr) (nn cn : Nat) (T : Tr) (w : World) (h : TrR w Ab nb An nn T) (hv : Ok T) :
    Calls Try.prog 21 #[.agg #[.slice Ab nb cb, .slice An nn cn]] w fun e w' => e = .returned (.int .i64 (sizeTo T.nodes T.nodes.length)) ∧ Held w w' := by
  have M0 := Lib.hid ((Mem.start w).alloc #[.slice Ab nb cb, .slice An nn cn] 27)
  have HT := Lib.hid h
  have hnn := h.nn
  have hn12 := hv.nods
  have HD := Lib.hid (ok_dl hv)
  rw [hnn] at hn12 ⊢
  clear h hv
  go_enter Try.func21, Try.ntmps21
  go_wp2
  go_loopw [3, 9] (fun v i wr => ∃ (k s : Nat), i = .int .i64 k ∧ k ≤ nn ∧ v = .int .i64 s ∧ sizeTo T.nodes k = s ∧ s ≤ 64 * k ∧ Held w wr) (fun _ i _ => nn - (intOf i).toNat)
  case atStart => exact ⟨0, 0, rfl, Nat.zero_le _, rfl, rfl, Nat.le_refl _, M0.out.held⟩
  case round =>
    obtain ⟨k, s, rfl, hk, rfl, hs, hs64, hw⟩ := hrel
    have HW := Lib.hid hw
    have HS := Lib.hid hs
    clear hw hs
    by_cases hlt : (k : Int) < nn
    · obtain ⟨b, off, x, A, dn, dcap, rfl, lb, hx, x0, x1, x2, x3, hds, hnil⟩ := HT.out.at_ HW.out (k := k) (by omega)
      have HX := Lib.hid (sizeTo_next hx)
      have hdl := HD.out k x hx
      rw [hds.1] at HX hdl
      have hlb := lt_of_cell x0
      simp only at hlb
      clear hx hds hnil
      have hs1 : (s : Int) + (dn : Int) ≤ 1000 := by omega
      have hs2 : (s : Int) ≤ 1000 := by omega
      have hs3 : (dn : Int) ≤ 1000 := by omega
      go_wp2
      go_roundw
      case rel => exact ⟨k + 1, s + dn, by go_num, by omega, by go_num, by rw [HX.out, HS.out], by omega, HW.out.alloc _⟩
      case measure => (simp [intOf]) <;> omega
    · obtain rfl : nn = k := by omega
      have HQ : Hid (sizeTo T.nodes nn = s) := HS
      go_wp2
      go_ret
      exact ⟨by rw [HQ.out]; rfl, HW.out⟩
end Sn
end Go.Proofs.Ytncgihbnfmpdbaa
