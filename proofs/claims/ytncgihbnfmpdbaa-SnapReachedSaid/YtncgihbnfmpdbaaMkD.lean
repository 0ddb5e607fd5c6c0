/-
  Contract: Data of vmfleetmake: some string of the length that is asked for.
-/
import Derived.Test.YtncgihbnfmpdbaaMk
import Derived.Test.YtncgihbnfmpdbaaBy
import Derived.Test.YtncgihbnfmpdbaaRd
namespace Go.Proofs.Ytncgihbnfmpdbaa
open Go.RowKit
open By
set_option linter.unusedVariables false
set_option maxRecDepth 100000
namespace Mk
theorem grown_held {W w w1 : World} {v : Value} {e : TypeId} {size n : Nat} {xs : List Value} {o : Obj} (hb : Held W w) (hown : w.ownsRow W.heap.size e size v n xs) (hg : (w.alloc o).grownBy w1 v.ownBlock) : Held W w1 := below_app hb hb.size hown hg
theorem wrap8 (x : Int) : IntKind.u8.wrap x = ((UInt8.ofNat (x % 256).toNat).toNat : Int) := by
  rw [IntKind.wrap_u8]
  simp [UInt8.toNat_ofNat']; omega
theorem mod8 (x : Nat) : ((x : Int) % 256) = ((UInt8.ofNat (x % 256)).toNat : Int) := by
  simp [UInt8.toNat_ofNat']
theorem data_any (n : Int) (k : Nat) (w : World) (hk : (k : Int) ≤ 100000) :
    Calls Try.prog 23 #[.int .i64 n, .int .i64 k] w fun e w' => ∃ l : List UInt8, l.length = k ∧ e = .returned (.string ⟨l.toArray⟩) ∧ Held w w' := by
  go_enter Try.func23, Try.ntmps23
  go_wp2
  go_loopw [5, 6] (fun o i wr => ∃ (l : List UInt8) (j : Nat), i = .int .i64 j ∧ j ≤ k ∧ l.length = j ∧ wr.ownsRow w.heap.size 5 1 o l.length (by8 l) ∧ Held w wr) (fun _ i _ => k - (intOf i).toNat)
  case atStart => exact ⟨[], 0, rfl, Nat.zero_le _, rfl, World.ownsRow_nil _ _ _ _, Held.refl _⟩
  case round =>
    obtain ⟨l, j, rfl, hj, hl, hown, hh⟩ := hrel
    have HH := Lib.hid (And.intro hown hh)
    have hle := hh.le
    have HL := Lib.hid hl
    have hl2 : l.length ≤ 100000 := by omega
    clear hh hl
    by_cases hlt : (j : Int) < k
    · go_wp2_with (first | (go_at_call 24; refine (mix_any _ _ _).mono ?_; rintro e w' ⟨rfl, rfl⟩) | (at_builtin; refine app_u8M _ rfl _ _ rfl w.heap.size _ l [UInt8.ofNat ((mix n ((j : Int) / 9)) % 256)] ⟨wr.heap.size, 0, none⟩ 1 1 rfl (hown.alloc _) rfl rfl (one_cell _ _ _ (mod8 _) _) (by omega) (by simp; omega) ?_; intro o4 w4 hown4 hg4 hm4))
      go_roundw
      case rel => exact ⟨l ++ [UInt8.ofNat ((mix n ((j : Int) / 9)) % 256)], j + 1, by go_num, by omega, by rw [List.length_append, HL.out]; rfl, hown4, grown_held HH.out.2 HH.out.1 hg4⟩
      case measure => (simp [intOf]) <;> omega
    · have hcv := conv_own hown
      have hjk : Hid (l.length = k) := by show _ = _; rw [HL.out]; omega
      go_wp2
      go_ret
      exact ⟨l, hjk.out, rfl, HH.out.2⟩
end Mk
end Go.Proofs.Ytncgihbnfmpdbaa
