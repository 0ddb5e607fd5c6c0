/-
  Contracts: Blocks of vmfleetplan; act of the law package (chapter 41).
-/
import Derived.Test.YtncgihbnfmpdbaaSnZ
import Derived.Test.YtncgihbnfmpdbaaPlX
set_option linter.unusedVariables false
set_option linter.unusedSimpArgs false
set_option maxRecDepth 100000
namespace Go.Proofs.Ytncgihbnfmpdbaa
open Go.RowKit
namespace Sn
def blocksTo (n : Int) (k : Nat) : List ByteArray := (List.range k).map fun i : Nat => Pl.dataV (n + i) 128
theorem blocksTo_next (n : Int) (k : Nat) : blocksTo n (k + 1) = blocksTo n k ++ [Pl.dataV (n + k) 128] := by unfold blocksTo; rw [List.range_succ, List.map_append]; rfl
theorem blocksTo_len (n : Int) (k : Nat) : (blocksTo n k).length = k := by unfold blocksTo; simp
set_option maxHeartbeats 2000000 in
theorem blocks_ex (n : Int) (w : World) (hn : 0 ≤ n ∧ n ≤ 1000) : Calls Try.prog 8 #[.int .i64 n] w (Mks 9 1 stC (blocksTo n 4) w) := by
  have M0 := Lib.hid ((Mem.start w).nilRow (e := 9) (s := 1) (f := stC))
  go_enter Try.func8, Try.ntmps8
  go_wp2
  go_loopw [3, 4] (fun v i wr => ∃ (k : Nat) (A : Option Addr) (cap : Nat), i = .int .i64 k ∧ k ≤ 4 ∧ v = .slice A k cap ∧ Mem w wr [.row 9 1 stC w.heap.size (.slice A k cap) (blocksTo n k)]) (fun _ i _ => 4 - (intOf i).toNat)
  case atStart => exact ⟨0, none, 0, rfl, Nat.zero_le _, rfl, M0.out⟩
  case round =>
    obtain ⟨k, A, cap, rfl, hk, rfl, M⟩ := hrel
    have M1 := Lib.hid M
    clear M M0
    by_cases hlt : (k : Int) < 4
    · have HDA := Lib.hid (fun w => Pl.data_ex (n + k) 128 w (by decide))
      have HNX := Lib.hid (blocksTo_next n k)
      have HLN := Lib.hid (blocksTo_len n k)
      obtain ⟨d, hd⟩ : ∃ q, Pl.dataV (n + k) 128 = q := ⟨_, rfl⟩
      rw [hd] at HDA HNX
      clear hd
      go_wp2_with (first | (go_at_call 23; refine (HDA.out _).mono ?_; rintro e w4 ⟨rfl, h4⟩; have M4 := Lib.hid (M1.out.keep h4)) | (at_builtin; refine Mem.wp_app (M4.out.skip _) 0 rfl rfl _ _ _ rfl _ 16 Try.underlying24 info_st rfl (by decide) stC_len stC_one d ⟨w4.heap.size, 0, none⟩ 1 rfl rfl (cells_new _ (by simp) _ _) k HLN.out (by omega) (by decide) ?_; intro g5 cp5 w5 M5; have M6 := Lib.hid M5; clear M5))
      go_roundw
      case rel => exact ⟨k + 1, _, _, by go_num, by omega, rfl, by rw [HNX.out]; exact M6.out⟩
      case measure => (simp [intOf]) <;> omega
    · obtain rfl : k = 4 := by omega
      go_wp2
      go_ret
      exact Mks.mk (M1.out.row 0 rfl) M1.out.held
/-- What act does. -/
structure Op where
  T : Tr
  kind : Int
  node : Int
  block : Int
  data : ByteArray
  e : Int
def aNode (v : Nat) : Int := (v : Int) / 16 % 12 - 1
def aName (v : Nat) : ByteArray := ⟨#[UInt8.ofNat (97 + v / 1024 % 20)]⟩
def aLast (T : Tr) (v : Nat) : Int := if v / 512 % 2 = 0 then (T.nodes.length : Int) - 1 else aNode v
def aBlock (v : Nat) : Int := (v : Int) / 4096 % 4
def aData (v : Nat) : ByteArray := Pl.pageV ((v : Int) / 65536)
def actR (T : Tr) (v : Nat) : Op :=
  if v % 6 = 0 ∨ v % 6 = 1 then ⟨create T (aNode v) (aName v), 0, createN T (aNode v) (aName v), 0, ⟨#[]⟩, createE T (aNode v) (aName v)⟩
  else if v % 6 = 2 then ⟨delete T (aNode v), 2, aNode v, 0, ⟨#[]⟩, deleteE T (aNode v)⟩
  else ⟨write T (aLast T v) (aBlock v) (aData v), 1, aLast T v, aBlock v, aData v, writeE T (aLast T v) (aBlock v)⟩
/-- A tree handed back by value. -/
def ActTo (O : Op) (w : World) (e : Ending) (w' : World) : Prop :=
  ∃ Ab nb cb An nn cn R, e = .returned (.tuple #[.agg #[.slice Ab nb cb, .slice An nn cn], .int .i64 O.kind, .int .i64 O.node, .int .i64 O.block, .string O.data, .int .i64 O.e]) ∧ TrM w w' Ab nb cb An nn cn O.T R
theorem aName_size (v : Nat) : (aName v).size = 1 := rfl
end Sn
end Go.Proofs.Ytncgihbnfmpdbaa
