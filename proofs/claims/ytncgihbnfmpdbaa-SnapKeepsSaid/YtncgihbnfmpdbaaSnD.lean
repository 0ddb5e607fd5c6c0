/-
  Contracts: Find, see (chapter 41), of the program.
-/
import Derived.Test.YtncgihbnfmpdbaaSnC
set_option linter.unusedVariables false
set_option linter.unusedSimpArgs false
set_option maxRecDepth 100000
namespace Go.Proofs.Ytncgihbnfmpdbaa
open Go.RowKit
namespace Sn
/-- What Find hands back. -/
def findR (N : List Nd) (nm : ByteArray) : Int × Bool := match find N nm with | some i => ((i : Int), true) | none => (0, false)
theorem findTo_next {N : List Nd} {nm : ByteArray} {k : Nat} {x : Nd} (hx : N[k]? = some x) (h : findTo N nm k = none) : findTo N nm (k + 1) = if x.nm = nm then some k else none := by rw [findTo, h, hx]
theorem findTo_stay {N : List Nd} {nm : ByteArray} {k i : Nat} (h : findTo N nm k = some i) : ∀ j, k ≤ j → findTo N nm j = some i := by
  intro j hj
  induction j with
  | zero => obtain rfl : k = 0 := by omega
            exact h
  | succ j ih =>
    by_cases e : k = j + 1
    · rw [← e]; exact h
    · rw [findTo, ih (by omega)]
theorem ba_toList {a b : ByteArray} : a.toList = b.toList ↔ a = b := by
  constructor
  · intro h
    rw [ByteArray.toList_eq, ByteArray.toList_eq] at h
    cases a; cases b
    simp at h
    subst h; rfl
  · rintro rfl; rfl
theorem nm_eq (a b : ByteArray) : (a.toList == b.toList) = decide (a = b) := by
  by_cases h : a = b
  · subst h; simp
  · rw [decide_eq_false h, beq_eq_false_iff_ne]
    exact fun e => h (ba_toList.1 e)
theorem ret_ib {p : Int × Bool} {a : Int} {b : Bool} (h : p = (a, b)) : Ending.returned (.tuple #[.int .i64 a, .bool b]) = .returned (.tuple #[.int .i64 p.1, .bool p.2]) := by rw [h]
theorem nm_empty {s : ByteArray} (h : ¬ s.size = 0) : s.toList.isEmpty = false := by
  rw [ByteArray.toList_eq]
  have : s.size = s.data.toList.length := (Array.length_toList (xs := s.data)).symm
  rw [this] at h
  cases hs : s.data.toList with
  | nil => rw [hs] at h; exact absurd rfl h
  | cons a l => rfl
set_option maxHeartbeats 2000000 in
theorem find_any (Ab : Option Addr) (nb cb : Nat) (An : Option Addr) (nn cn : Nat) (T : Tr) (nm : ByteArray) (w : World) (h : TrR w Ab nb An nn T) (hn : (nn : Int) ≤ 1000000) (hnm : ¬ nm.size = 0) :
    Calls Try.prog 20 #[.agg #[.slice Ab nb cb, .slice An nn cn], .string nm] w fun e w' => e = .returned (.tuple #[.int .i64 (findR T.nodes nm).1, .bool (findR T.nodes nm).2]) ∧ Held w w' := by
  have HT := Lib.hid h
  have HE : Hid (find T.nodes nm = findTo T.nodes nm nn) := show _ = _ by unfold find; rw [h.nn]
  have M0 := Lib.hid ((Mem.start w).alloc #[.slice Ab nb cb, .slice An nn cn] 27)
  have hne := nm_empty hnm
  clear h hnm
  go_enter Try.func20, Try.ntmps20
  go_wp2
  go_loopw [13] (fun i wr => ∃ k : Nat, i = .int .i64 k ∧ k ≤ nn ∧ findTo T.nodes nm k = none ∧ Mem w wr [.box w.heap.size #[.slice Ab nb cb, .slice An nn cn] 27]) (fun i _ => nn - (intOf i).toNat)
  case atStart => exact ⟨0, rfl, Nat.zero_le _, rfl, M0.out⟩
  case round =>
    obtain ⟨k, rfl, hk, hno, M⟩ := hrel
    have M1 := Lib.hid M
    have HNO := Lib.hid hno
    clear M M0 hno
    by_cases hlt : (k : Int) < nn
    · obtain ⟨b, off, x, A, n, cap, rfl, lb, hx, x0, x1, x2, x3, _⟩ := HT.out.at_ M1.out.held (k := k) (by omega)
      have HN := Lib.hid (findTo_next hx HNO.out)
      have hlb := lt_of_cell x0
      simp only at hlb
      have hq := nm_eq x.nm nm
      have M2 := Lib.hid (M1.out.alloc #[.string x.nm, .int .i64 x.par, .bool x.op, .slice A n cap] 36)
      clear hx
      by_cases he : x.nm = nm
      · rw [decide_eq_true he] at hq
        have HP : Hid (findR T.nodes nm = ((k : Int), true)) := show _ = _ by
          have := HN.out
          rw [if_pos he] at this
          unfold findR
          rw [HE.out, findTo_stay this nn (by omega)]
        clear he
        go_wp2
        go_ret2
        exact ⟨ret_ib HP.out, M2.out.held⟩
      · rw [decide_eq_false he] at hq
        have HN2 : Hid (findTo T.nodes nm (k + 1) = none) := show _ = _ by rw [HN.out, if_neg he]
        clear he
        go_wp2
        go_roundw
        case rel => exact ⟨k + 1, by go_num, by omega, HN2.out, M2.out.take 1⟩
        case measure => (simp [intOf]) <;> omega
    · obtain rfl : nn = k := by omega
      have HP : Hid (findR T.nodes nm = (0, false)) := show _ = _ by unfold findR; rw [HE.out, HNO.out]
      go_wp2
      go_ret2
      exact ⟨ret_ib HP.out, M1.out.held⟩
end Sn
end Go.Proofs.Ytncgihbnfmpdbaa
