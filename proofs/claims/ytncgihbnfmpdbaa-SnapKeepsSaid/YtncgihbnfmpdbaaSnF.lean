/-
  Contracts: a valid tree is found valid (chapter 41), by the program.
-/
import Derived.Test.YtncgihbnfmpdbaaSnE
set_option linter.unusedVariables false
set_option linter.unusedSimpArgs false
set_option maxRecDepth 100000
namespace Go.Proofs.Ytncgihbnfmpdbaa
open Go.RowKit
namespace Sn
/-- The block of the last delta looked at. -/
def lastB (ds : List Dl) : Nat → Int
  | 0 => -1
  | k + 1 => match ds[k]? with | some d => d.b | none => -1
theorem lastB_lt {ds : List Dl} {N k : Nat} {d : Dl} (h : DsOk ds N) (hd : ds[k]? = some d) : lastB ds k < d.b := by
  cases k with
  | zero => have := (h.all d (List.mem_of_getElem? hd)).1; show (-1 : Int) < d.b; omega
  | succ k =>
    obtain ⟨hk, rfl⟩ := List.getElem?_eq_some_iff.1 hd
    have hk' : k < ds.length := by omega
    rw [lastB, List.getElem?_eq_getElem hk']
    exact List.pairwise_iff_getElem.1 h.sorted k (k + 1) hk' hk (by omega)
set_option maxHeartbeats 2000000 in
theorem vdeltas_any (A : Option Addr) (n cap : Nat) (ds : List Dl) (N : Nat) (w : World) (h : Sl 2 dlC w A n ds) (hd : DsOk ds N) (hn : (n : Int) ≤ 1000000) :
    Calls Try.prog 52 #[.slice A n cap, .int .i64 N] w fun e w' => e = .returned (.bool true) ∧ Held w w' := by
  have HS := Lib.hid h
  have HD := Lib.hid hd
  clear h hd
  go_enter Try.func52, Try.ntmps52
  go_wp2
  go_loopw [5, 10] (fun l i wr => ∃ k : Nat, i = .int .i64 k ∧ k ≤ n ∧ l = .int .i64 (lastB ds k) ∧ Held w wr) (fun _ i _ => n - (intOf i).toNat)
  case atStart => exact ⟨0, rfl, Nat.zero_le _, rfl, Held.refl _⟩
  case round =>
    obtain ⟨k, rfl, hk, rfl, hw⟩ := hrel
    have HW := Lib.hid hw
    clear hw
    by_cases hlt : (k : Int) < n
    · obtain ⟨b, off, d, rfl, lb, hd, x0, x1⟩ := dl_at HS.out HW.out (k := k) (by omega)
      have hlb := lt_of_cell x0
      simp only at hlb
      have hll := lastB_lt HD.out hd
      have ha := HD.out.all d (List.mem_of_getElem? hd)
      have h1 : ¬ (N : Int) ≤ d.b := by omega
      have h2 : ((d.s.size : Int) != 128) = false := by rw [ha.2.2]; rfl
      have HN : Hid (lastB ds (k + 1) = d.b) := show _ = _ by rw [lastB, hd]
      obtain ⟨lst, hlst⟩ : ∃ x, lastB ds k = x := ⟨_, rfl⟩
      rw [hlst] at hll ⊢
      have h3 : ¬ d.b ≤ lst := by omega
      clear hd ha hlst
      go_wp2
      go_roundw
      case rel => exact ⟨k + 1, by go_num, by omega, by rw [HN.out], HW.out.alloc _⟩
      case measure => (simp [intOf]) <;> omega
    · obtain ⟨lst, hlst⟩ : ∃ x, lastB ds k = x := ⟨_, rfl⟩
      rw [hlst]
      clear hlst
      go_wp2
      go_ret
      exact ⟨rfl, HW.out⟩
end Sn
end Go.Proofs.Ytncgihbnfmpdbaa
