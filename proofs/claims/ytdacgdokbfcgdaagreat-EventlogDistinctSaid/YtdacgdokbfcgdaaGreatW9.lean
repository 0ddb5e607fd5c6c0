/-
  Contracts of the reference's devices: what may be, requests, the console.
  Contract: Round of vmfleetmake.
  Contract: Mix of vmfleetmake.
  Contract: Data of vmfleetmake: some string of the length that is asked for.
  Contracts of the reference: the bytes of a page.
  Contracts of the reference's devices: the disk and the network card, written.
  Contracts of the reference's machine: lines, interrupts.
-/
import Derived.Test.YtdacgdokbfcgdaaGreatW8
import Derived.Test.YtdacgdokbfcgdaaGreatW2
import Derived.Test.YtdacgdokbfcgdaaGreatProg
import Derived.Test.YtdacgdokbfcgdaaGreatW1
import Derived.WalkSpells
import Derived.WalkLawsBesides
import Derived.BigQuiet
import Derived.Deep.QuietTactic
import Derived.Test.YtdacgdokbfcgdaaGreatW4
import Derived.Deep.CutBlock
import Derived.Deep.DeepCutAuto
set_option linter.unusedVariables false
set_option linter.unusedSimpArgs false
set_option maxRecDepth 100000
namespace Go.Proofs.YtdacgdokbfcgdaaGreat
open Go.RowKit Go.BigFrame Go.Sort Go.Lib
namespace Ma
abbrev dskC (x0 x1 x2 x3 x4 x5 x6 : Int) (x7 : ByteArray) : Value := .agg #[.int .u32 x0, .int .u32 x1, .int .u32 x2, .int .i64 x3, .int .i64 x4, .int .u32 x5, .int .u32 x6, .string x7]
abbrev nicC (x0 x1 : Int) (x2 : Bool) (x3 : Int) (x4 : Bool) (x5 : Int) : Value := .agg #[.int .u32 x0, .int .u32 x1, .bool x2, .int .u32 x3, .bool x4, .int .u32 x5]
set_option maxHeartbeats 2000000 in
theorem nicmay_any (x0 x1 x3 x5 : Int) (x2 x4 : Bool) (h3 : Wd x3) (w : World) : Calls Tryz.prog 82 #[nicC x0 x1 x2 x3 x4 x5, .int .i64 8] w (BoolHeld w) := by
  have y1 : IntKind.i64.wrap x3 = x3 := IntWalk.i64_in _ ⟨by have := h3.1; omega, by have := h3.2; omega⟩
  clear h3
  by_cases ha : 8 ≤ x3 <;> cases hb : (x3 == 0) <;> cases hc : (x5 == 0) <;> by_cases hd : 1 ≤ x5 <;> cases x2 <;> cases x4 <;>
  · go_enter Tryz.func82, Tryz.ntmps82
    go_wp2
    all_goals go_ret
    all_goals exact ⟨_, rfl, (Held.refl w).alloc _⟩
set_option maxHeartbeats 2000000 in
theorem diskmay_any (x0 x1 x2 x3 x4 x5 x6 : Int) (x7 : ByteArray) (h6 : Wd x6) (w : World) : Calls Tryz.prog 81 #[dskC x0 x1 x2 x3 x4 x5 x6 x7, .int .i64 8] w (BoolHeld w) := by
  have y1 : IntKind.i64.wrap x6 = x6 := IntWalk.i64_in _ ⟨by have := h6.1; omega, by have := h6.2; omega⟩
  clear h6
  by_cases ha : 64 < x0
  · go_enter Tryz.func81, Tryz.ntmps81
    go_wp2
    all_goals go_ret
    all_goals exact ⟨_, rfl, (Held.refl w).alloc _⟩
  · by_cases hb : x3 < 0
    · go_enter Tryz.func81, Tryz.ntmps81
      go_wp2
      all_goals go_ret
      all_goals exact ⟨_, rfl, (Held.refl w).alloc _⟩
    · by_cases hc : 3 < x3
      · go_enter Tryz.func81, Tryz.ntmps81
        go_wp2
        all_goals go_ret
        all_goals exact ⟨_, rfl, (Held.refl w).alloc _⟩
      · cases hd : (x3 == 1)
        · cases he : (x4 == 0) <;> cases hf : (x5 == 0) <;> cases hg : (x6 == 0) <;>
          · go_enter Tryz.func81, Tryz.ntmps81
            go_wp2
            all_goals go_ret
            all_goals exact ⟨_, rfl, (Held.refl w).alloc _⟩
        · by_cases he : x0 ≤ x5
          · go_enter Tryz.func81, Tryz.ntmps81
            go_wp2
            all_goals go_ret
            all_goals exact ⟨_, rfl, (Held.refl w).alloc _⟩
          · by_cases hf : 8 ≤ x6
            · go_enter Tryz.func81, Tryz.ntmps81
              go_wp2
              all_goals go_ret
              all_goals exact ⟨_, rfl, (Held.refl w).alloc _⟩
            · cases hg : (x4 == 1) <;> cases hh : (x4 == 2) <;> cases hk : (x7.toList == []) <;>
              · go_enter Tryz.func81, Tryz.ntmps81
                go_wp2
                all_goals go_ret
                all_goals exact ⟨_, rfl, (Held.refl w).alloc _⟩
abbrev outC (k a b : Int) (s : ByteArray) : Value := .agg #[.int .i64 k, .int .u64 a, .int .u32 b, .string s]
set_option maxHeartbeats 2000000 in
theorem request_any (x0 x1 x2 x3 x4 x5 x6 : Int) (x7 : ByteArray) (at_ : Int) (w : World) : Calls Tryz.prog 158 #[dskC x0 x1 x2 x3 x4 x5 x6 x7, .int .u64 at_] w
    fun e w' => ∃ (k a b : Int) (s : ByteArray) (ok : Bool), e = .returned (.tuple #[outC k a b s, .bool ok]) ∧ Held w w' := by
  cases hd : (x3 == 1)
  · go_enter Tryz.func158, Tryz.ntmps158
    go_wp2
    refine bodyPost_ret (v := .tuple #[outC 0 0 0 ⟨#[]⟩, .bool false]) (by simp [results, Tryz.results158, go_sem]) rfl ?_
    exact ⟨_, _, _, _, _, rfl, ((Held.refl w).alloc _).alloc _⟩
  · cases he : (x4 == 1)
    · cases hf : (x4 == 2)
      · go_enter Tryz.func158, Tryz.ntmps158
        go_wp2
        refine bodyPost_ret (v := .tuple #[outC 0 0 0 ⟨#[]⟩, .bool false]) (by simp [results, Tryz.results158, go_sem]) rfl ?_
        exact ⟨_, _, _, _, _, rfl, ((Held.refl w).alloc _).alloc _⟩
      · go_enter Tryz.func158, Tryz.ntmps158
        go_wp2
        refine bodyPost_ret (v := .tuple #[outC 4 at_ x5 x7, .bool true]) (by simp [results, Tryz.results158, go_sem]) rfl ?_
        exact ⟨_, _, _, _, _, rfl, ((Held.refl w).alloc _).alloc _⟩
    · go_enter Tryz.func158, Tryz.ntmps158
      go_wp2
      refine bodyPost_ret (v := .tuple #[outC 3 at_ x5 ⟨#[]⟩, .bool true]) (by simp [results, Tryz.results158, go_sem]) rfl ?_
      exact ⟨_, _, _, _, _, rfl, ((Held.refl w).alloc _).alloc _⟩
end Ma
end Go.Proofs.YtdacgdokbfcgdaaGreat

namespace Go.Proofs.YtdacgdokbfcgdaaGreat
open Go.RowKit
set_option linter.unusedVariables false
set_option maxRecDepth 100000
namespace Mk
/-- n modulo k, from 0 on (k at least 1). -/
def round (n k : Int) : Int := n % k
theorem round_bd (n k : Int) (h : 1 ≤ k) : 0 ≤ round n k ∧ round n k < k := ⟨Int.emod_nonneg _ (by omega), Int.emod_lt_of_pos _ (by omega)⟩
theorem ret_int {a b : Int} (h : a = b) : Ending.returned (.int .i64 a) = .returned (.int .i64 b) := by rw [h]
theorem round_any (n k : Int) (hn : -9223372036854775808 ≤ n) (hn' : n ≤ 9223372036854775807) (h1 : 1 ≤ k) (h2 : k ≤ 9223372036854775807) (w : World) :
    Calls Tryz.prog 15 #[.int .i64 n, .int .i64 k] w fun e w' => e = .returned (.int .i64 (round n k)) ∧ w = w' := by
  have hk0 : ¬ k = 0 := by omega
  by_cases h0 : 0 ≤ n
  · have hr : Hid (n % k = round n k) := rfl
    have hb := (round_bd n k h1).1
    have hb' : ¬ n % k < 0 := by unfold round at hb; omega
    clear hb
    go_enter Tryz.func15, Tryz.ntmps15
    go_wp2
    go_ret
    exact ⟨ret_int hr.out, rfl⟩
  · obtain ⟨t, ht⟩ : ∃ t, n.tmod k = t := ⟨_, rfl⟩
    have hneg : t = -((-n) % k) := by
      rw [← ht, ← Int.neg_neg n, Int.neg_tmod, Int.tmod_eq_emod_of_nonneg (by omega)]; simp
    have hb1 : 0 ≤ (-n) % k := Int.emod_nonneg _ (by omega)
    have hb2 : (-n) % k < k := Int.emod_lt_of_pos _ (by omega)
    have hr : round n k = if t < 0 then t + k else t := by
      unfold round
      by_cases hz : (-n) % k = 0
      · rw [if_neg (by omega)]
        have : n % k = 0 := by
          have hd := Int.dvd_of_emod_eq_zero hz
          exact Int.emod_eq_zero_of_dvd ((Int.dvd_neg).1 hd)
        omega
      · rw [if_pos (by omega)]
        have e : n = t + k + k * (-((-n) / k) - 1) := by
          have := Int.mul_ediv_add_emod (-n) k
          rw [Int.mul_sub, Int.mul_neg]; omega
        rw [e, Int.add_mul_emod_self_left, Int.emod_eq_of_lt (by omega) (by omega)]
    have HR := Lib.hid hr
    have ht1 : -t < k := by omega
    have ht2 : t ≤ 0 := by omega
    clear hneg hb1 hb2 hr
    by_cases hs : t < 0
    · go_enter Tryz.func15, Tryz.ntmps15
      go_wp2
      go_ret
      exact ⟨ret_int (by rw [HR.out, if_pos hs]), rfl⟩
    · go_enter Tryz.func15, Tryz.ntmps15
      go_wp2
      go_ret
      exact ⟨ret_int (by rw [HR.out, if_neg (by omega)]), rfl⟩
end Mk
end Go.Proofs.YtdacgdokbfcgdaaGreat

namespace Go.Proofs.YtdacgdokbfcgdaaGreat
open Go.RowKit
set_option linter.unusedVariables false
set_option maxRecDepth 100000
namespace Mk
theorem and_i64 (a b : Nat) (ha : a < 9223372036854775808) (hb : b < 9223372036854775808) : bits .and .i64 (a : Int) (b : Int) = ((a &&& b : Nat) : Int) := by
  show IntKind.i64.wrap (((BitVec.ofInt 64 (a : Int)) &&& (BitVec.ofInt 64 (b : Int))).toNat : Int) = _
  rw [BitVec.toNat_and, ofInt_u64 a (by omega), ofInt_u64 b (by omega)]
  have h : a &&& b ≤ a := Nat.and_le_left
  exact IntWalk.i64_in _ (by omega)
/-- The generator's value, in the walk's spelling. -/
def seedN (x : Int) : Int := IntKind.u64.wrap (x + 11400714819323198485)
def mixA (s : Int) : Int := IntKind.u64.wrap (bits .xor .u64 s (s / 1073741824) * 13787848793156543929)
def mixB (z : Int) : Int := IntKind.u64.wrap (bits .xor .u64 z (z / 134217728) * 10723151780598845931)
def mixC (z : Int) : Int := bits .xor .u64 z (z / 2147483648)
def nextV (x : Int) : Int := mixC (mixB (mixA (seedN x)))
theorem next_any (x : Int) (w : World) :
    Calls Tryz.prog 97 #[.int .u64 x] w fun e w' => e = .returned (.tuple #[.int .u64 (nextV x), .int .u64 (seedN x)]) ∧ w = w' := by
  go_enter Tryz.func97, Tryz.ntmps97
  go_wp2
  go_ret2
  exact ⟨rfl, rfl⟩
theorem nextV_bd (x : Int) : 0 ≤ nextV x ∧ nextV x ≤ 18446744073709551615 := by
  have hb : ∀ z : Int, 0 ≤ bits .xor .u64 z (z / 2147483648) ∧ bits .xor .u64 z (z / 2147483648) ≤ 18446744073709551615 := by
    intro z
    show 0 ≤ IntKind.u64.wrap _ ∧ IntKind.u64.wrap _ ≤ _
    rw [IntKind.wrap_u64]; omega
  exact hb _
/-- A natural number below 2^63 that is derived from two numbers. -/
def mix (n k : Int) : Nat := (nextV (bits .xor .u64 (IntKind.u64.wrap n) (IntKind.u64.wrap (IntKind.u64.wrap k * 11400714819323198485))) / 2).toNat
theorem mix_lt (n k : Int) : mix n k < 9223372036854775808 := by
  unfold mix; have := nextV_bd (bits .xor .u64 (IntKind.u64.wrap n) (IntKind.u64.wrap (IntKind.u64.wrap k * 11400714819323198485))); omega
theorem mix_any (n k : Int) (w : World) :
    Calls Tryz.prog 66 #[.int .i64 n, .int .i64 k] w fun e w' => e = .returned (.int .i64 (mix n k)) ∧ w = w' := by
  obtain ⟨x, hx⟩ : ∃ x, nextV (bits .xor .u64 (IntKind.u64.wrap n) (IntKind.u64.wrap (IntKind.u64.wrap k * 11400714819323198485))) = x := ⟨_, rfl⟩
  have hb := nextV_bd (bits .xor .u64 (IntKind.u64.wrap n) (IntKind.u64.wrap (IntKind.u64.wrap k * 11400714819323198485)))
  rw [hx] at hb
  have HM : Hid (((mix n k : Nat) : Int) = x / 2) := show _ = _ by unfold mix; rw [hx]; omega
  have HX := Lib.hid hx
  clear hx
  go_enter Tryz.func66, Tryz.ntmps66
  go_wp2_with (go_at_call 97; refine (next_any _ _).mono ?_; rintro e w' ⟨rfl, rfl⟩; rw [HX.out])
  go_ret
  exact ⟨ret_int HM.out.symm, rfl⟩
end Mk
end Go.Proofs.YtdacgdokbfcgdaaGreat

namespace Go.Proofs.YtdacgdokbfcgdaaGreat
open Go.RowKit
open By
set_option linter.unusedVariables false
set_option maxRecDepth 100000
namespace Mk
theorem grown_held {W w w1 : World} {v : Value} {e : TypeId} {size n : Nat} {xs : List Value} {o : Obj} (hb : Held W w) (hown : w.ownsRow W.heap.size e size v n xs) (hg : (w.alloc o).grownBy w1 v.ownBlock) : Held W w1 := below_app hb hb.size hown hg
theorem mod8 (x : Nat) : ((x : Int) % 256) = ((UInt8.ofNat (x % 256)).toNat : Int) := by
  simp [UInt8.toNat_ofNat']
theorem data_any (n : Int) (k : Nat) (w : World) (hk : (k : Int) ≤ 100000) :
    Calls Tryz.prog 99 #[.int .i64 n, .int .i64 k] w fun e w' => ∃ l : List UInt8, l.length = k ∧ e = .returned (.string ⟨l.toArray⟩) ∧ Held w w' := by
  go_enter Tryz.func99, Tryz.ntmps99
  go_wp2
  go_loopw [5, 6] (fun o i wr => ∃ (l : List UInt8) (j : Nat), i = .int .i64 j ∧ j ≤ k ∧ l.length = j ∧ wr.ownsRow w.heap.size 5 1 o l.length (by8 l) ∧ Held w wr) (fun _ i _ => k - (intOf i).toNat)
  case atStart => exact ⟨[], 0, rfl, Nat.zero_le _, rfl, World.ownsRow_nil _ _ _ _, Held.refl _⟩
  case round =>
    obtain ⟨l, j, rfl, hj, hl, hown, hh⟩ := hrel
    have HH := Lib.hid (And.intro hown hh)
    have hle := hh.le
    have HL := Lib.hid hl
    have hl2 : l.length ≤ 100000 := by omega
    clear hh hl
    by_cases hlt : (j : Int) < k
    · go_wp2_with (first | (go_at_call 66; refine (mix_any _ _ _).mono ?_; rintro e w' ⟨rfl, rfl⟩) | (at_builtin; refine app_u8M _ rfl _ _ rfl w.heap.size _ l [UInt8.ofNat ((mix n ((j : Int) / 9)) % 256)] ⟨wr.heap.size, 0, none⟩ 1 1 rfl (hown.alloc _) rfl rfl (one_cell _ _ _ (mod8 _) _) (by omega) (by simp; omega) ?_; intro o4 w4 hown4 hg4 hm4))
      go_roundw
      case rel => exact ⟨l ++ [UInt8.ofNat ((mix n ((j : Int) / 9)) % 256)], j + 1, by go_num, by omega, by rw [List.length_append, HL.out]; rfl, hown4, grown_held HH.out.2 HH.out.1 hg4⟩
      case measure => (simp [intOf]) <;> omega
    · have hcv := conv_own hown
      have hjk : Hid (l.length = k) := by show _ = _; rw [HL.out]; omega
      go_wp2
      go_ret
      exact ⟨l, hjk.out, rfl, HH.out.2⟩
end Mk
end Go.Proofs.YtdacgdokbfcgdaaGreat

namespace Go.Proofs.YtdacgdokbfcgdaaGreat
open Go.RowKit Go.BigFrame Go.Sort Go.Lib
open By Mk
namespace Ma
theorem own_heldB {w w1 : World} {base : Nat} {v : Value} {e : TypeId} {size n : Nat} {xs : List Value} (h : w.ownsRow base e size v n xs) (hw : Held w w1) : w1.ownsRow base e size v n xs := by
  refine ⟨h.1, ?_⟩
  rcases h.2 with h2 | ⟨g, cap, cur, hv, hb, hh, r⟩
  · exact .inl h2
  · exact .inr ⟨g, cap, cur, hv, hb, by rw [hw.block g (Array.getElem?_eq_some_iff.1 hh).1]; exact hh, r⟩
theorem held_grown0 {W w w1 : World} {v : Value} {e : TypeId} {size n : Nat} {xs : List Value} (hb : Held W w) (hown : w.ownsRow W.heap.size e size v n xs) (hg : w.grownBy w1 v.ownBlock) : Held W w1 := by
  refine Below.grown hb hg hb.size ?_
  intro k hk
  obtain ⟨_, h⟩ := hown
  rcases h with ⟨rfl, _⟩ | ⟨g, cap, cur, rfl, hg', _⟩
  · simp [Value.ownBlock] at hk
  · simp [Value.ownBlock] at hk; omega
theorem mod8I (x : Int) : x % 256 = ((UInt8.ofNat (x % 256).toNat).toNat : Int) := by
  simp [UInt8.toNat_ofNat']
  omega
set_option maxHeartbeats 2000000 in
theorem low_any (x : Int) (w : World) : Calls Tryz.prog 160 #[.int .u32 x, .int .i64 4] w fun e w' => ∃ l : List UInt8, l.length = 4 ∧ e = .returned (.string ⟨l.toArray⟩) ∧ Held w w' := by
  go_enter Tryz.func160, Tryz.ntmps160
  go_wp2
  go_loopw [5, 6] (fun o i wr => ∃ (l : List UInt8) (j : Nat), i = .int .i64 j ∧ j ≤ 4 ∧ l.length = j ∧ wr.ownsRow w.heap.size 5 1 o l.length (by8 l) ∧ Held w wr) (fun _ i _ => 4 - (intOf i).toNat)
  case atStart => exact ⟨[], 0, rfl, Nat.zero_le _, rfl, World.ownsRow_nil _ _ _ _, Held.refl _⟩
  case round =>
    obtain ⟨l, j, rfl, hj, hl, hown, hh⟩ := hrel
    have HH := Lib.hid (And.intro hown hh)
    have hle := hh.le
    have HL := Lib.hid hl
    have hl2 : l.length ≤ 100000 := by omega
    clear hh hl
    by_cases hlt : (j : Int) < 4
    · have y3 : IntKind.u64.wrap (8 * (j : Int)) = 8 * (j : Int) := IntWalk.u64_in _ ⟨by omega, by omega⟩
      have y4 : (0 : Int) ≤ j := by omega
      go_wp2_with (at_builtin; refine app_u8M _ rfl _ _ rfl w.heap.size _ l [UInt8.ofNat ((_ : Int) % 256).toNat] ⟨wr.heap.size, 0, none⟩ 1 1 rfl (hown.alloc _) rfl rfl (one_cell _ _ _ (mod8I _) _) (by omega) (by simp; omega) ?_; intro o4 w4 hown4 hg4 hm4)
      go_roundw
      case rel => exact ⟨_, j + 1, by go_num, by omega, by rw [List.length_append, HL.out]; rfl, hown4, grown_held HH.out.2 HH.out.1 hg4⟩
      case measure => (simp [intOf]) <;> omega
    · have hcv := conv_own hown
      have hjk : Hid (l.length = 4) := by show _ = _; rw [HL.out]; omega
      go_wp2
      go_ret
      exact ⟨l, hjk.out, rfl, HH.out.2⟩
set_option maxHeartbeats 2000000 in
theorem pageS_any (A : Option Addr) (cap f : Nat) (L : List Int) (hf : f < 8) (hcap : 256 ≤ cap) (w : World) (h : Sl 1 uC w A 256 L) : Calls Tryz.prog 157 #[.slice A 256 cap, .int .i64 (f : Int)] w
    fun e w' => ∃ l : List UInt8, l.length = 128 ∧ e = .returned (.tuple #[.string ⟨l.toArray⟩, .bool true]) ∧ Held w w' := by
  have HP := Lib.hid fun w => pages_any A cap w
  have HS := Lib.hid h
  obtain ⟨b, off, rfl, hb, _⟩ := wordAt h (Held.refl w) (k := 0) (by omega)
  have HW := Lib.hid fun (a : World) (ha : Held w a) (k : Nat) (hk : k < 256) => (wordAt h ha hk)
  have z1 : (f : Int) < 8 := by omega
  have z0 : (0 : Int) ≤ f := by omega
  have HLO := Lib.hid fun x w => low_any x w
  clear h
  go_enter Tryz.func157, Tryz.ntmps157
  go_wp2_with fail
  refine (HP.out _).mono ?_
  rintro e w3 ⟨rfl, rfl⟩
  go_wp2
  go_loopw [6, 7] (fun o i wr => ∃ (l : List UInt8) (j : Nat), i = .int .i64 j ∧ j ≤ 32 ∧ l.length = 4 * j ∧ wr.ownsRow w.heap.size 5 1 o l.length (by8 l) ∧ Held w wr) (fun _ i _ => 32 - (intOf i).toNat)
  case atStart => exact ⟨[], 0, rfl, Nat.zero_le _, rfl, World.ownsRow_nil _ _ _ _, Held.refl _⟩
  case round =>
    obtain ⟨l, j, rfl, hj, hl, hown, hh⟩ := hrel
    have HH := Lib.hid (And.intro hown hh)
    have hle := hh.le
    have HL := Lib.hid hl
    have hl2 : l.length ≤ 100000 := by omega
    clear hl
    by_cases hlt : (j : Int) < 32
    · have y4 : (0 : Int) ≤ j := by omega
      obtain ⟨k, hk⟩ : ∃ k, f * 32 + j = k := ⟨_, rfl⟩
      have yk : (f : Int) * 32 + (j : Int) = (k : Int) := by omega
      have yk1 : (k : Int) < 256 := by omega
      have yk0 : (0 : Int) ≤ k := by omega
      obtain ⟨b', off', he, hb', hc⟩ := HW.out wr hh k (by omega)
      injection he with he
      injection he with he1 he2
      subst he1 he2
      obtain ⟨x, hx⟩ : ∃ x, L.getD k 0 = x := ⟨_, rfl⟩
      rw [hx] at hc
      clear hk hx hh hb' hj
      go_wp2_with fail
      refine (HLO.out _ _).mono ?_
      rintro e w4 ⟨m, hm, rfl, h4⟩
      have hown2 : w4.ownsRow w.heap.size 5 1 _ l.length (by8 l) := own_heldB hown h4
      have h5 := Lib.hid (HH.out.2.step h4)
      have hle5 := h5.out.le
      have HM := Lib.hid hm
      have hmm : m.length ≤ 4 := by omega
      clear hc hm h4
      go_wp2_with (at_builtin; refine app_strM _ rfl _ _ rfl w.heap.size _ l ⟨m.toArray⟩ rfl hown2 rfl (by simp [ByteArray.size]; omega) (by omega) ?_; intro o6 w6 hown6 hg6 hm6)
      go_roundw
      case rel => exact ⟨_, j + 1, by go_num, by omega, by rw [List.length_append, HL.out]; simp [HM.out]; omega, hown6, held_grown0 h5.out hown2 hg6⟩
      case measure => (simp [intOf]) <;> omega
    · have hcv := conv_own hown
      have hjk : Hid (l.length = 128) := by show _ = _; rw [HL.out]; omega
      go_wp2
      go_ret2
      exact ⟨l, hjk.out, rfl, HH.out.2⟩
end Ma
end Go.Proofs.YtdacgdokbfcgdaaGreat

namespace Go.Proofs.YtdacgdokbfcgdaaGreat
open Go.RowKit Go.BigFrame Go.Sort Go.Lib
theorem Mem.lit {W w : World} {H : List Ck} (h : Mem W w H) {α : Type} {e : TypeId} {s : Nat} {f : α → List Value} (x : α) (hf : (f x).length = s) (cs : Array Value) (hcs : cs.toList = f x) {b : Nat} (hb : w.heap.size = b) :
    Mem W (w.alloc (.cells cs e)) (.row e s f W.heap.size (.slice (some ⟨b, 0, none⟩) 1 1) [x] :: H) := by
  subst hb
  have hsz : cs.size = s := by rw [← Array.length_toList, hcs, hf]
  refine (h.new ((Held.refl w).alloc _) (.row e s f W.heap.size (.slice (some ⟨w.heap.size, 0, none⟩) 1 1) [x]) ?_ ?_).toFront
  · refine ⟨by simp [hf], .inr ⟨w.heap.size, 1, cs, rfl, h.le, heap_alloc_new w _, Nat.le_refl _, by decide, by rw [hsz, Nat.one_mul], ?_⟩⟩
    rw [List.take_of_length_le (by rw [Array.length_toList, hsz]; simp)]
    simp [hcs]
  · intro b hb
    simp [Ck.row, Value.ownBlock] at hb
    omega
namespace Ma
structure Ou where
  k : Int
  a : Int
  b : Int
  s : ByteArray
def oC (x : Ou) : List Value := [.int .i64 x.k, .int .u64 x.a, .int .u32 x.b, .string x.s]
theorem oC_len (x : Ou) : (oC x).length = 4 := rfl
abbrev outR (B : Nat) (v : Value) (LO : List Ou) : Ck := .row 215 4 oC B v LO
theorem uOut : ∃ fs, Tryz.prog.underlying 215 = some (.struct fs) := ⟨_, Tryz.underlying215⟩
theorem sOut : (Tryz.prog.info? 215).map (·.size) = some 4 := by kernel_rfl
abbrev dskA (x0 x1 x2 x3 x4 x5 x6 : Int) (x7 : ByteArray) : Array Value := #[.int .u32 x0, .int .u32 x1, .int .u32 x2, .int .i64 x3, .int .i64 x4, .int .u32 x5, .int .u32 x6, .string x7]
abbrev nicA (x0 x1 : Int) (x2 : Bool) (x3 : Int) (x4 : Bool) (x5 : Int) : Array Value := #[.int .u32 x0, .int .u32 x1, .bool x2, .int .u32 x3, .bool x4, .int .u32 x5]
theorem dsk_one (x0 x1 x2 x3 x4 x5 x6 : Int) (x7 : ByteArray) : ∀ v ∈ (dskA x0 x1 x2 x3 x4 x5 x6 x7).toList, v.oneCell' = true := by
  intro v hv
  simp at hv
  rcases hv with rfl | rfl | rfl | rfl | rfl | rfl | rfl | rfl <;> rfl
theorem nic_one (x0 x1 : Int) (x2 : Bool) (x3 : Int) (x4 : Bool) (x5 : Int) : ∀ v ∈ (nicA x0 x1 x2 x3 x4 x5).toList, v.oneCell' = true := by
  intro v hv
  simp at hv
  rcases hv with rfl | rfl | rfl | rfl | rfl | rfl <;> rfl
theorem load_dsk {w : World} {b : Nat} {cs : Array Value} {t : TypeId} (hs : cs.size = 8) (h : w.heap[b]? = some (.cells cs t (0, 0))) : (loadVar 51 ⟨b, 0, none⟩).run Tryz.prog w = .ok (.agg cs) w := by
  obtain ⟨fs, hu⟩ := uDsk
  have := Big.run_load (P := Tryz.prog) w b 0 8 t 51 cs (0, 0) _ h hu rfl sDsk (by omega) cs.toList (by rw [List.drop_zero, List.take_of_length_le (by rw [Array.length_toList]; omega)])
  simpa using this
theorem load_nic {w : World} {b : Nat} {cs : Array Value} {t : TypeId} (hs : cs.size = 6) (h : w.heap[b]? = some (.cells cs t (0, 0))) : (loadVar 53 ⟨b, 0, none⟩).run Tryz.prog w = .ok (.agg cs) w := by
  obtain ⟨fs, hu⟩ := uNic
  have := Big.run_load (P := Tryz.prog) w b 0 6 t 53 cs (0, 0) _ h hu rfl sNic (by omega) cs.toList (by rw [List.drop_zero, List.take_of_length_le (by rw [Array.length_toList]; omega)])
  simpa using this
def DskOK (x0 x1 x2 x3 x4 x5 x6 : Int) (x7 : ByteArray) : Prop := Wd x0 ∧ Wd x1 ∧ Wd x2 ∧ (0 ≤ x3 ∧ x3 ≤ 3) ∧ (0 ≤ x4 ∧ x4 ≤ 4294967295) ∧ Wd x5 ∧ Wd x6 ∧ x7.size ≤ 128
def NicOK (x0 x1 : Int) (x3 : Int) (x5 : Int) : Prop := Wd x0 ∧ Wd x1 ∧ Wd x3 ∧ Wd x5
def DsoTo (W : World) (g cap : Nat) (L : List Int) (F : List Ck) (e : Ending) (w' : World) : Prop := ∃ (x0 x1 x2 x3 x4 x5 x6 : Int) (x7 : ByteArray) (v : Value) (LO : List Ou), e = .returned (.tuple #[.agg (dskA x0 x1 x2 x3 x4 x5 x6 x7), v]) ∧ DskOK x0 x1 x2 x3 x4 x5 x6 x7 ∧ LO.length ≤ 1 ∧ Mem W w' (outR W.heap.size v LO :: memR W.heap.size g cap L :: F)
def NcoTo (W : World) (g cap : Nat) (L : List Int) (F : List Ck) (e : Ending) (w' : World) : Prop := ∃ (x0 x1 : Int) (x2 : Bool) (x3 : Int) (x4 : Bool) (x5 : Int) (v : Value) (LO : List Ou), e = .returned (.tuple #[.agg (nicA x0 x1 x2 x3 x4 x5), v]) ∧ NicOK x0 x1 x3 x5 ∧ LO.length ≤ 1 ∧ Mem W w' (outR W.heap.size v LO :: memR W.heap.size g cap L :: F)
theorem keepFst {W w : World} {x a b c : Ck} {R : List Ck} (h : Mem W w (x :: a :: b :: c :: R)) : Mem W w (x :: R) := h.sub (List.Sublist.cons_cons _ (List.Sublist.cons _ (List.Sublist.cons _ (List.Sublist.cons _ (List.Sublist.refl _)))))
theorem keepFst2 {W w : World} {x a b : Ck} {R : List Ck} (h : Mem W w (x :: a :: b :: R)) : Mem W w (x :: R) := h.sub (List.Sublist.cons_cons _ (List.Sublist.cons _ (List.Sublist.cons _ (List.Sublist.refl _))))

set_option maxHeartbeats 4000000 in
theorem diskout_4 (W : World) (g cap : Nat) (x0 x1 : Int) (x2 : Nat) (x3 x4 x5 x6 : Int) (x7 : ByteArray) (v : Nat) (at_ : Int) (hd : DskOK x0 x1 x2 x3 x4 x5 x6 x7) (hv : v < 4294967296) (L : List Int) (F : List Ck) (w : World) (hM : Mem W w (memR W.heap.size g cap L :: F)) (hL : MemOK L) :
    Calls Tryz.prog 128 #[.agg (dskA x0 x1 x2 x3 x4 x5 x6 x7), .slice (some ⟨g, 0, none⟩) 256 cap, .int .i64 4, .int .u32 (v : Int), .int .u64 at_] w (DsoTo W g cap L F) := by
  have HM := Lib.hid hM
  obtain ⟨h0, h1, h2, h3, h4, h5, h6, h7⟩ := hd
  have HD : Hid (DskOK x0 x1 x2 x3 x4 x5 x6 x7) := Lib.hid ⟨h0, h1, h2, h3, h4, h5, h6, h7⟩
  have HV : Hid (Wd (v : Int)) := Lib.hid ⟨by omega, by omega⟩
  clear hM h0 h1 h2 h3 h4 h5 h6 h7 hv
  go_enter Tryz.func128, Tryz.ntmps128
  go_wp2
  refine bodyPost_ret (v := .tuple #[.agg (dskA x0 (v : Int) x2 x3 x4 x5 x6 x7), .slice none 0 0]) (by simp [results, Tryz.results128, go_sem]) rfl ?_
  exact ⟨_, _, _, _, _, _, _, _, _, [], rfl, ⟨HD.out.1, HV.out, HD.out.2.2⟩, by decide, ((HM.out.skip _).skip _).nilRow.toFront⟩
set_option maxHeartbeats 4000000 in
theorem diskout_5 (W : World) (g cap : Nat) (x0 x1 : Int) (x2 : Nat) (x3 x4 x5 x6 : Int) (x7 : ByteArray) (v : Nat) (at_ : Int) (hd : DskOK x0 x1 x2 x3 x4 x5 x6 x7) (hv : v < 4294967296) (L : List Int) (F : List Ck) (w : World) (hM : Mem W w (memR W.heap.size g cap L :: F)) (hL : MemOK L) :
    Calls Tryz.prog 128 #[.agg (dskA x0 x1 x2 x3 x4 x5 x6 x7), .slice (some ⟨g, 0, none⟩) 256 cap, .int .i64 5, .int .u32 (v : Int), .int .u64 at_] w (DsoTo W g cap L F) := by
  have HM := Lib.hid hM
  obtain ⟨h0, h1, h2, h3, h4, h5, h6, h7⟩ := hd
  have HD : Hid (DskOK x0 x1 x2 x3 x4 x5 x6 x7) := Lib.hid ⟨h0, h1, h2, h3, h4, h5, h6, h7⟩
  have HV : Hid (Wd (v : Int)) := Lib.hid ⟨by omega, by omega⟩
  clear hM h0 h1 h2 h3 h4 h5 h6 h7 hv
  go_enter Tryz.func128, Tryz.ntmps128
  go_wp2
  refine bodyPost_ret (v := .tuple #[.agg (dskA x0 x1 (v : Int) x3 x4 x5 x6 x7), .slice none 0 0]) (by simp [results, Tryz.results128, go_sem]) rfl ?_
  exact ⟨_, _, _, _, _, _, _, _, _, [], rfl, ⟨HD.out.1, HD.out.2.1, HV.out, HD.out.2.2.2⟩, by decide, ((HM.out.skip _).skip _).nilRow.toFront⟩
set_option maxHeartbeats 4000000 in
theorem diskout_6 (W : World) (g cap : Nat) (x0 x1 : Int) (x2 : Nat) (x3 x4 x5 x6 : Int) (x7 : ByteArray) (v : Nat) (at_ : Int) (hd : DskOK x0 x1 x2 x3 x4 x5 x6 x7) (hv : v < 4294967296) (L : List Int) (F : List Ck) (w : World) (hM : Mem W w (memR W.heap.size g cap L :: F)) (hL : MemOK L) :
    Calls Tryz.prog 128 #[.agg (dskA x0 x1 x2 x3 x4 x5 x6 x7), .slice (some ⟨g, 0, none⟩) 256 cap, .int .i64 6, .int .u32 (v : Int), .int .u64 at_] w (DsoTo W g cap L F) := by
  have HM := Lib.hid hM
  obtain ⟨h0, h1, h2, h3, h4, h5, h6, h7⟩ := hd
  have HD : Hid (DskOK x0 x1 x2 x3 x4 x5 x6 x7) := Lib.hid ⟨h0, h1, h2, h3, h4, h5, h6, h7⟩
  have HV : Hid (Wd (v : Int)) := Lib.hid ⟨by omega, by omega⟩
  have hx2 : x2 < 4294967296 := by have := h2.2; omega
  have HP := Lib.hid fun w => page_any (some ⟨g, 0, none⟩) cap x2 hx2 w
  have zx2 : (x2 : Int) ≤ 4294967295 := by omega
  have yx2 : IntKind.i64.wrap (x2 : Int) = x2 := IntWalk.i64_in _ ⟨by omega, by omega⟩
  rcases (by omega : v = 0 ∨ v = 1 ∨ v = 2 ∨ 3 ≤ v) with rfl | rfl | rfl | hv3
  · rcases (by omega : x3 = 2 ∨ x3 = 3 ∨ (x3 ≠ 2 ∧ x3 ≠ 3)) with rfl | rfl | ⟨q1, q2⟩
    · clear hM h0 h1 h2 h3 h4 h5 h6 h7 hv
      go_enter Tryz.func128, Tryz.ntmps128
      go_wp2
      refine bodyPost_ret (v := .tuple #[.agg (dskA x0 x1 x2 0 x4 x5 x6 x7), .slice none 0 0]) (by simp [results, Tryz.results128, go_sem]) rfl ?_
      exact ⟨_, _, _, _, _, _, _, _, _, [], rfl, ⟨HD.out.1, HD.out.2.1, HD.out.2.2.1, ⟨by decide, by decide⟩, HD.out.2.2.2.2⟩, by decide, ((HM.out.skip _).skip _).nilRow.toFront⟩
    · clear hM h0 h1 h2 h3 h4 h5 h6 h7 hv
      go_enter Tryz.func128, Tryz.ntmps128
      go_wp2
      refine bodyPost_ret (v := .tuple #[.agg (dskA x0 x1 x2 0 x4 x5 x6 x7), .slice none 0 0]) (by simp [results, Tryz.results128, go_sem]) rfl ?_
      exact ⟨_, _, _, _, _, _, _, _, _, [], rfl, ⟨HD.out.1, HD.out.2.1, HD.out.2.2.1, ⟨by decide, by decide⟩, HD.out.2.2.2.2⟩, by decide, ((HM.out.skip _).skip _).nilRow.toFront⟩
    · have z1 : (x3 == 2) = false := by rw [beq_eq_false_iff_ne]; exact q1
      have z2 : (x3 == 3) = false := by rw [beq_eq_false_iff_ne]; exact q2
      clear hM h0 h1 h2 h3 h4 h5 h6 h7 hv
      go_enter Tryz.func128, Tryz.ntmps128
      go_wp2
      refine bodyPost_ret (v := .tuple #[.agg (dskA x0 x1 x2 x3 x4 x5 x6 x7), .slice none 0 0]) (by simp [results, Tryz.results128, go_sem]) rfl ?_
      exact ⟨_, _, _, _, _, _, _, _, _, [], rfl, HD.out, by decide, ((HM.out.skip _).skip _).nilRow.toFront⟩
  · by_cases q0 : x3 = 0
    · subst q0
      by_cases q1 : x0 ≤ x1
      · clear hM h0 h1 h2 h3 h4 h5 h6 h7 hv
        go_enter Tryz.func128, Tryz.ntmps128
        go_wp2
        refine bodyPost_ret (v := .tuple #[.agg (dskA x0 x1 x2 3 x4 x5 x6 x7), .slice none 0 0]) (by simp [results, Tryz.results128, go_sem]) rfl ?_
        exact ⟨_, _, _, _, _, _, _, _, _, [], rfl, ⟨HD.out.1, HD.out.2.1, HD.out.2.2.1, ⟨by decide, by decide⟩, HD.out.2.2.2.2⟩, by decide, ((HM.out.skip _).skip _).nilRow.toFront⟩
      · by_cases q2 : x2 < 8
        · have z8 : decide (x2 < 8) = true := by simpa using q2
          rw [z8] at HP
          have HPG := Lib.hid fun (w' : World) (h : Sl 1 uC w' (some ⟨g, 0, none⟩) 256 L) => pageS_any (some ⟨g, 0, none⟩) cap x2 L q2 (memCap hM) w' h
          have M0 := Lib.hid ((hM.allocF (b := w.heap.size) rfl (dskA x0 x1 x2 1 1 x1 x2 ⟨#[]⟩) 51).allocF (b := w.heap.size + 1) (by simp) (dskA 0 0 0 0 0 0 0 ⟨#[]⟩) 51)
          clear hL z8 q2
          clear hM h0 h1 h2 h3 h4 h5 h6 h7 hv
          go_enter Tryz.func128, Tryz.ntmps128
          go_wp2_with fail
          refine (HP.out _).mono ?_
          rintro e w3 ⟨rfl, rfl⟩
          have HSZ := Lib.hid (show (⟨#[]⟩ : ByteArray).size ≤ 128 by decide)
          go_wp2_with fail
          refine (request_any x0 x1 x2 1 1 x1 x2 ⟨#[]⟩ at_ _).mono ?_
          rintro e w6 ⟨k, a, b, s, ok, rfl, h6⟩
          have M6 := Lib.hid ((M0.out.keep h6).allocF (b := w6.heap.size) rfl #[.int .i64 k, .int .u64 a, .int .u32 b, .string s] 215)
          clear h6
          go_upto_region 16 with fail
          refine Tl.start 5 (fun w' => w'.heap[w.heap.size]? = some (.cells (dskA x0 x1 x2 1 1 x1 x2 ⟨#[]⟩) 51 (0, 0)) ∧ w'.heap[w6.heap.size]? = some (.cells #[.int .i64 k, .int .u64 a, .int .u32 b, .string s] 215 (0, 0))) (by kernel_rfl) (⟨M6.out.drew.blk 2 rfl, M6.out.drew.blk 0 rfl⟩) (fun hHeld => ?_)
          refine Tl.ty 0 (⟨some 95, .load 51 (.tmp 5), 51, "devices.go:116", #[], none⟩ : Oper) (.agg (dskA x0 x1 x2 1 1 x1 x2 ⟨#[]⟩)) rfl (Big.yields_load 51 rfl rfl rfl (fun w' h => h.1) uDsk sDsk) (by assumption) ?_
          try simp only [Act.put, Tl.p2, Tl.p3, Tl.p4]
          refine Tl.ty 1 (⟨some 96, .load 215 (.tmp 12), 215, "devices.go:116", #[⟨3, .gcOnly .lateStores⟩], none⟩ : Oper) (.agg #[.int .i64 k, .int .u64 a, .int .u32 b, .string s]) rfl (Big.yields_load 215 rfl rfl rfl (fun w' h => h.2) uOut sOut) (by assumption) ?_
          try simp only [Act.put, Tl.p2, Tl.p3, Tl.p4]
          refine Tl.many (rs := [2, 3]) (by kernel_rfl) (by simp) ?_
          refine Tl.All.cons (o := (⟨some 97, .buildSlice 62 1 #[(0, .tmp 96)], 62, "devices.go:116", #[⟨1, .data⟩, ⟨3, .gcOnly .lateStores⟩], none⟩ : Oper)) rfl (fun K hK => ?_) ?_
          · go_simp
            have M7 := Lib.hid (M6.out.drew.lit (e := 215) (s := 4) (f := oC) ⟨k, a, b, s⟩ rfl #[.int .i64 k, .int .u64 a, .int .u32 b, .string s] rfl (b := w6.heap.size + 1) (by simp))
            refine hK.out _ _ (⟨M7.out.blk 3 rfl, M7.out.blk 1 rfl⟩) (fun hHeld => ?_)
            clear hK K
            try simp only [Act.put, Tl.p2, Tl.p3, Tl.p4]
            refine Tl.step (i := 3) (o := (⟨none, .store 51 (.tmp 10) (.tmp 95), 0, "devices.go:116", #[⟨0, .data⟩, ⟨0, .phase⟩, ⟨1, .textOnly .lateStores⟩, ⟨2, .textOnly .lateStores⟩], none⟩ : Oper)) (by kernel_rfl) rfl (fun K hK => ?_)
            refine Mem.step_storeAll 51 rfl rfl rfl rfl 2 M7.out rfl sDsk rfl (dsk_one _ _ _ _ _ _ _ _) ?_
            intro w8 MM'
            have M8 := Lib.hid MM'
            clear MM'
            simp only [List.set_cons_zero, List.set_cons_succ] at M8
            refine hK.out _ _ (⟨M8.out.blk 3 rfl, M8.out.blk 1 rfl⟩) (fun hHeld => ?_)
            clear hK K
            try simp only [Act.put, Tl.p2, Tl.p3, Tl.p4]
            refine Tl.tf 4 (⟨some 11, .assign (.tmp 97), 62, "devices.go:116", #[⟨2, .data⟩, ⟨3, .chain⟩, ⟨0, .phase⟩, ⟨1, .phase⟩, ⟨2, .phase⟩, ⟨3, .phase⟩], none⟩ : Oper) ?v3 rfl ?hy3 (by assumption) ?_
            case hy3 => (intro w; go_simp; all_goals (with_reducible rfl))
            try simp only [Act.put, Tl.p2, Tl.p3, Tl.p4]
            refine Tl.done (by kernel_rfl) ?_ _
            go_wp2
            refine bodyPost_ret (Bx.res_ct Tryz.results128 rfl (load_dsk rfl (M8.out.blk 2 rfl))) rfl ?_
            exact ⟨_, _, _, _, _, _, _, _, _, _, rfl, ⟨HD.out.1, HD.out.2.1, HD.out.2.2.1, ⟨by decide, by decide⟩, ⟨by decide, by decide⟩, HD.out.2.1, HD.out.2.2.1, HSZ.out⟩, Nat.le_refl _, keepFst M8.out⟩
          refine Tl.All.cons (o := (⟨none, .store 51 (.tmp 10) (.tmp 95), 0, "devices.go:116", #[⟨0, .data⟩, ⟨0, .phase⟩, ⟨1, .textOnly .lateStores⟩, ⟨2, .textOnly .lateStores⟩], none⟩ : Oper)) rfl (fun K hK => ?_) ?_
          · refine Mem.step_storeAll 51 rfl rfl rfl rfl 1 M6.out.drew rfl sDsk rfl (dsk_one _ _ _ _ _ _ _ _) ?_
            intro w8 MM'
            have M7 := Lib.hid MM'
            clear MM'
            simp only [List.set_cons_zero, List.set_cons_succ] at M7
            refine hK.out _ _ (⟨M7.out.blk 2 rfl, M7.out.blk 0 rfl⟩) (fun hHeld => ?_)
            clear hK K
            try simp only [Act.put, Tl.p2, Tl.p3, Tl.p4]
            refine Tl.step (i := 2) (o := (⟨some 97, .buildSlice 62 1 #[(0, .tmp 96)], 62, "devices.go:116", #[⟨1, .data⟩, ⟨3, .gcOnly .lateStores⟩], none⟩ : Oper)) (by kernel_rfl) rfl (fun K hK => ?_)
            go_simp
            have M8 := Lib.hid (M7.out.lit (e := 215) (s := 4) (f := oC) ⟨k, a, b, s⟩ rfl #[.int .i64 k, .int .u64 a, .int .u32 b, .string s] rfl rfl)
            refine hK.out _ _ (⟨M8.out.blk 3 rfl, M8.out.blk 1 rfl⟩) (fun hHeld => ?_)
            clear hK K
            try simp only [Act.put, Tl.p2, Tl.p3, Tl.p4]
            refine Tl.tf 4 (⟨some 11, .assign (.tmp 97), 62, "devices.go:116", #[⟨2, .data⟩, ⟨3, .chain⟩, ⟨0, .phase⟩, ⟨1, .phase⟩, ⟨2, .phase⟩, ⟨3, .phase⟩], none⟩ : Oper) ?v4 rfl ?hy4 (by assumption) ?_
            case hy4 => (intro w; go_simp; all_goals (with_reducible rfl))
            try simp only [Act.put, Tl.p2, Tl.p3, Tl.p4]
            refine Tl.done (by kernel_rfl) ?_ _
            go_wp2
            refine bodyPost_ret (Bx.res_ct Tryz.results128 rfl (load_dsk rfl (M8.out.blk 2 rfl))) rfl ?_
            exact ⟨_, _, _, _, _, _, _, _, _, _, rfl, ⟨HD.out.1, HD.out.2.1, HD.out.2.2.1, ⟨by decide, by decide⟩, ⟨by decide, by decide⟩, HD.out.2.1, HD.out.2.2.1, HSZ.out⟩, Nat.le_refl _, keepFst M8.out⟩
          exact Tl.All.nil
        · have z8 : decide (x2 < 8) = false := by simpa using q2
          rw [z8] at HP
          clear z8 q2
          clear hM h0 h1 h2 h3 h4 h5 h6 h7 hv
          go_enter Tryz.func128, Tryz.ntmps128
          go_wp2_with fail
          refine (HP.out _).mono ?_
          rintro e w3 ⟨rfl, rfl⟩
          go_wp2
          refine bodyPost_ret (v := .tuple #[.agg (dskA x0 x1 x2 3 x4 x5 x6 x7), .slice none 0 0]) (by simp [results, Tryz.results128, go_sem]) rfl ?_
          exact ⟨_, _, _, _, _, _, _, _, _, [], rfl, ⟨HD.out.1, HD.out.2.1, HD.out.2.2.1, ⟨by decide, by decide⟩, HD.out.2.2.2.2⟩, by decide, ((HM.out.skip _).skip _).nilRow.toFront⟩
    · have z1 : (x3 == 0) = false := by rw [beq_eq_false_iff_ne]; exact q0
      clear hM h0 h1 h2 h3 h4 h5 h6 h7 hv
      go_enter Tryz.func128, Tryz.ntmps128
      go_wp2
      refine bodyPost_ret (v := .tuple #[.agg (dskA x0 x1 x2 x3 x4 x5 x6 x7), .slice none 0 0]) (by simp [results, Tryz.results128, go_sem]) rfl ?_
      exact ⟨_, _, _, _, _, _, _, _, _, [], rfl, HD.out, by decide, ((HM.out.skip _).skip _).nilRow.toFront⟩
  · by_cases q0 : x3 = 0
    · subst q0
      by_cases q1 : x0 ≤ x1
      · clear hM h0 h1 h2 h3 h4 h5 h6 h7 hv
        go_enter Tryz.func128, Tryz.ntmps128
        go_wp2
        refine bodyPost_ret (v := .tuple #[.agg (dskA x0 x1 x2 3 x4 x5 x6 x7), .slice none 0 0]) (by simp [results, Tryz.results128, go_sem]) rfl ?_
        exact ⟨_, _, _, _, _, _, _, _, _, [], rfl, ⟨HD.out.1, HD.out.2.1, HD.out.2.2.1, ⟨by decide, by decide⟩, HD.out.2.2.2.2⟩, by decide, ((HM.out.skip _).skip _).nilRow.toFront⟩
      · by_cases q2 : x2 < 8
        · have z8 : decide (x2 < 8) = true := by simpa using q2
          rw [z8] at HP
          have HPG := Lib.hid fun (w' : World) (h : Sl 1 uC w' (some ⟨g, 0, none⟩) 256 L) => pageS_any (some ⟨g, 0, none⟩) cap x2 L q2 (memCap hM) w' h
          have M0 := Lib.hid ((hM.allocF (b := w.heap.size) rfl (dskA x0 x1 x2 1 2 x1 x2 ⟨#[]⟩) 51).allocF (b := w.heap.size + 1) (by simp) (dskA 0 0 0 0 0 0 0 ⟨#[]⟩) 51)
          clear hL z8 q2
          clear hM h0 h1 h2 h3 h4 h5 h6 h7 hv
          go_enter Tryz.func128, Tryz.ntmps128
          go_wp2_with fail
          refine (HP.out _).mono ?_
          rintro e w3 ⟨rfl, rfl⟩
          go_wp2_with fail
          refine (HPG.out _ (memSl M0.out.up2)).mono ?_
          rintro e w4 ⟨l, hl, rfl, h4⟩
          have M4 := Lib.hid (M0.out.keep h4)
          have f7 := M4.out.free 1 rfl 7
          have c7 := M4.out.cell 1 rfl 7 rfl
          have M5' := M4.out.put 1 rfl 7 (.string ⟨l.toArray⟩)
          have M5 : Hid (Mem W _ (.box (w.heap.size + 1) _ 51 :: .box w.heap.size (dskA x0 x1 x2 1 2 x1 x2 ⟨l.toArray⟩) 51 :: _)) := Lib.hid M5'
          clear M5' h4
          have HSZ := Lib.hid (show (⟨l.toArray⟩ : ByteArray).size ≤ 128 by simp [ByteArray.size, hl])
          clear hl
          go_wp2_with (show wpList _ _ _ ((⟨_, Op.load 51 _, _, _, _, _⟩ : Oper) :: _) _ _; refine Mem.go_loadAll 51 rfl rfl rfl 1 M5.out rfl uDsk sDsk ?_)
          refine (request_any x0 x1 x2 1 2 x1 x2 ⟨l.toArray⟩ at_ _).mono ?_
          rintro e w6 ⟨k, a, b, s, ok, rfl, h6⟩
          have M6 := Lib.hid ((M5.out.keep h6).allocF (b := w6.heap.size) rfl #[.int .i64 k, .int .u64 a, .int .u32 b, .string s] 215)
          clear h6
          go_upto_region 16 with fail
          refine Tl.start 5 (fun w' => w'.heap[w.heap.size]? = some (.cells (dskA x0 x1 x2 1 2 x1 x2 ⟨l.toArray⟩) 51 (0, 0)) ∧ w'.heap[w6.heap.size]? = some (.cells #[.int .i64 k, .int .u64 a, .int .u32 b, .string s] 215 (0, 0))) (by kernel_rfl) (⟨M6.out.drew.blk 2 rfl, M6.out.drew.blk 0 rfl⟩) (fun hHeld => ?_)
          refine Tl.ty 0 (⟨some 95, .load 51 (.tmp 5), 51, "devices.go:116", #[], none⟩ : Oper) (.agg (dskA x0 x1 x2 1 2 x1 x2 ⟨l.toArray⟩)) rfl (Big.yields_load 51 rfl rfl rfl (fun w' h => h.1) uDsk sDsk) (by assumption) ?_
          try simp only [Act.put, Tl.p2, Tl.p3, Tl.p4]
          refine Tl.ty 1 (⟨some 96, .load 215 (.tmp 12), 215, "devices.go:116", #[⟨3, .gcOnly .lateStores⟩], none⟩ : Oper) (.agg #[.int .i64 k, .int .u64 a, .int .u32 b, .string s]) rfl (Big.yields_load 215 rfl rfl rfl (fun w' h => h.2) uOut sOut) (by assumption) ?_
          try simp only [Act.put, Tl.p2, Tl.p3, Tl.p4]
          refine Tl.many (rs := [2, 3]) (by kernel_rfl) (by simp) ?_
          refine Tl.All.cons (o := (⟨some 97, .buildSlice 62 1 #[(0, .tmp 96)], 62, "devices.go:116", #[⟨1, .data⟩, ⟨3, .gcOnly .lateStores⟩], none⟩ : Oper)) rfl (fun K hK => ?_) ?_
          · go_simp
            have M7 := Lib.hid (M6.out.drew.lit (e := 215) (s := 4) (f := oC) ⟨k, a, b, s⟩ rfl #[.int .i64 k, .int .u64 a, .int .u32 b, .string s] rfl (b := w6.heap.size + 1) (by simp))
            refine hK.out _ _ (⟨M7.out.blk 3 rfl, M7.out.blk 1 rfl⟩) (fun hHeld => ?_)
            clear hK K
            try simp only [Act.put, Tl.p2, Tl.p3, Tl.p4]
            refine Tl.step (i := 3) (o := (⟨none, .store 51 (.tmp 10) (.tmp 95), 0, "devices.go:116", #[⟨0, .data⟩, ⟨0, .phase⟩, ⟨1, .textOnly .lateStores⟩, ⟨2, .textOnly .lateStores⟩], none⟩ : Oper)) (by kernel_rfl) rfl (fun K hK => ?_)
            refine Mem.step_storeAll 51 rfl rfl rfl rfl 2 M7.out rfl sDsk rfl (dsk_one _ _ _ _ _ _ _ _) ?_
            intro w8 MM'
            have M8 := Lib.hid MM'
            clear MM'
            simp only [List.set_cons_zero, List.set_cons_succ] at M8
            refine hK.out _ _ (⟨M8.out.blk 3 rfl, M8.out.blk 1 rfl⟩) (fun hHeld => ?_)
            clear hK K
            try simp only [Act.put, Tl.p2, Tl.p3, Tl.p4]
            refine Tl.tf 4 (⟨some 11, .assign (.tmp 97), 62, "devices.go:116", #[⟨2, .data⟩, ⟨3, .chain⟩, ⟨0, .phase⟩, ⟨1, .phase⟩, ⟨2, .phase⟩, ⟨3, .phase⟩], none⟩ : Oper) ?v7 rfl ?hy7 (by assumption) ?_
            case hy7 => (intro w; go_simp; all_goals (with_reducible rfl))
            try simp only [Act.put, Tl.p2, Tl.p3, Tl.p4]
            refine Tl.done (by kernel_rfl) ?_ _
            go_wp2
            refine bodyPost_ret (Bx.res_ct Tryz.results128 rfl (load_dsk rfl (M8.out.blk 2 rfl))) rfl ?_
            exact ⟨_, _, _, _, _, _, _, _, _, _, rfl, ⟨HD.out.1, HD.out.2.1, HD.out.2.2.1, ⟨by decide, by decide⟩, ⟨by decide, by decide⟩, HD.out.2.1, HD.out.2.2.1, HSZ.out⟩, Nat.le_refl _, keepFst M8.out⟩
          refine Tl.All.cons (o := (⟨none, .store 51 (.tmp 10) (.tmp 95), 0, "devices.go:116", #[⟨0, .data⟩, ⟨0, .phase⟩, ⟨1, .textOnly .lateStores⟩, ⟨2, .textOnly .lateStores⟩], none⟩ : Oper)) rfl (fun K hK => ?_) ?_
          · refine Mem.step_storeAll 51 rfl rfl rfl rfl 1 M6.out.drew rfl sDsk rfl (dsk_one _ _ _ _ _ _ _ _) ?_
            intro w8 MM'
            have M7 := Lib.hid MM'
            clear MM'
            simp only [List.set_cons_zero, List.set_cons_succ] at M7
            refine hK.out _ _ (⟨M7.out.blk 2 rfl, M7.out.blk 0 rfl⟩) (fun hHeld => ?_)
            clear hK K
            try simp only [Act.put, Tl.p2, Tl.p3, Tl.p4]
            refine Tl.step (i := 2) (o := (⟨some 97, .buildSlice 62 1 #[(0, .tmp 96)], 62, "devices.go:116", #[⟨1, .data⟩, ⟨3, .gcOnly .lateStores⟩], none⟩ : Oper)) (by kernel_rfl) rfl (fun K hK => ?_)
            go_simp
            have M8 := Lib.hid (M7.out.lit (e := 215) (s := 4) (f := oC) ⟨k, a, b, s⟩ rfl #[.int .i64 k, .int .u64 a, .int .u32 b, .string s] rfl rfl)
            refine hK.out _ _ (⟨M8.out.blk 3 rfl, M8.out.blk 1 rfl⟩) (fun hHeld => ?_)
            clear hK K
            try simp only [Act.put, Tl.p2, Tl.p3, Tl.p4]
            refine Tl.tf 4 (⟨some 11, .assign (.tmp 97), 62, "devices.go:116", #[⟨2, .data⟩, ⟨3, .chain⟩, ⟨0, .phase⟩, ⟨1, .phase⟩, ⟨2, .phase⟩, ⟨3, .phase⟩], none⟩ : Oper) ?v8 rfl ?hy8 (by assumption) ?_
            case hy8 => (intro w; go_simp; all_goals (with_reducible rfl))
            try simp only [Act.put, Tl.p2, Tl.p3, Tl.p4]
            refine Tl.done (by kernel_rfl) ?_ _
            go_wp2
            refine bodyPost_ret (Bx.res_ct Tryz.results128 rfl (load_dsk rfl (M8.out.blk 2 rfl))) rfl ?_
            exact ⟨_, _, _, _, _, _, _, _, _, _, rfl, ⟨HD.out.1, HD.out.2.1, HD.out.2.2.1, ⟨by decide, by decide⟩, ⟨by decide, by decide⟩, HD.out.2.1, HD.out.2.2.1, HSZ.out⟩, Nat.le_refl _, keepFst M8.out⟩
          exact Tl.All.nil
        · have z8 : decide (x2 < 8) = false := by simpa using q2
          rw [z8] at HP
          clear z8 q2
          clear hM h0 h1 h2 h3 h4 h5 h6 h7 hv
          go_enter Tryz.func128, Tryz.ntmps128
          go_wp2_with fail
          refine (HP.out _).mono ?_
          rintro e w3 ⟨rfl, rfl⟩
          go_wp2
          refine bodyPost_ret (v := .tuple #[.agg (dskA x0 x1 x2 3 x4 x5 x6 x7), .slice none 0 0]) (by simp [results, Tryz.results128, go_sem]) rfl ?_
          exact ⟨_, _, _, _, _, _, _, _, _, [], rfl, ⟨HD.out.1, HD.out.2.1, HD.out.2.2.1, ⟨by decide, by decide⟩, HD.out.2.2.2.2⟩, by decide, ((HM.out.skip _).skip _).nilRow.toFront⟩
    · have z1 : (x3 == 0) = false := by rw [beq_eq_false_iff_ne]; exact q0
      clear hM h0 h1 h2 h3 h4 h5 h6 h7 hv
      go_enter Tryz.func128, Tryz.ntmps128
      go_wp2
      refine bodyPost_ret (v := .tuple #[.agg (dskA x0 x1 x2 x3 x4 x5 x6 x7), .slice none 0 0]) (by simp [results, Tryz.results128, go_sem]) rfl ?_
      exact ⟨_, _, _, _, _, _, _, _, _, [], rfl, HD.out, by decide, ((HM.out.skip _).skip _).nilRow.toFront⟩
  · have z0 : ((v : Int) == 0) = false := by rw [beq_eq_false_iff_ne]; omega
    have z1 : ((v : Int) == 1) = false := by rw [beq_eq_false_iff_ne]; omega
    have z2 : ((v : Int) == 2) = false := by rw [beq_eq_false_iff_ne]; omega
    clear hv3
    clear hM h0 h1 h2 h3 h4 h5 h6 h7 hv
    go_enter Tryz.func128, Tryz.ntmps128
    go_wp2
    refine bodyPost_ret (v := .tuple #[.agg (dskA x0 x1 x2 x3 x4 x5 x6 x7), .slice none 0 0]) (by simp [results, Tryz.results128, go_sem]) rfl ?_
    exact ⟨_, _, _, _, _, _, _, _, _, [], rfl, HD.out, by decide, ((HM.out.skip _).skip _).nilRow.toFront⟩
set_option maxHeartbeats 4000000 in
theorem nicout_7 (W : World) (g cap : Nat) (x0 x1 : Nat) (x2 : Bool) (x3 : Int) (x4 : Bool) (x5 : Int) (v : Nat) (at_ : Int) (hd : NicOK x0 x1 x3 x5) (hv : v < 4294967296) (L : List Int) (F : List Ck) (w : World) (hM : Mem W w (memR W.heap.size g cap L :: F)) (hL : MemOK L) :
    Calls Tryz.prog 129 #[.agg (nicA x0 x1 x2 x3 x4 x5), .slice (some ⟨g, 0, none⟩) 256 cap, .int .i64 7, .int .u32 (v : Int), .int .u64 at_] w (NcoTo W g cap L F) := by
  have HM := Lib.hid hM
  obtain ⟨h0, h1, h3, h5⟩ := hd
  have HD : Hid (NicOK x0 x1 x3 x5) := Lib.hid ⟨h0, h1, h3, h5⟩
  have HV : Hid (Wd (v : Int)) := Lib.hid ⟨by omega, by omega⟩
  clear hM h0 h1 h3 h5 hv
  go_enter Tryz.func129, Tryz.ntmps129
  go_wp2
  refine bodyPost_ret (v := .tuple #[.agg (nicA (v : Int) x1 x2 x3 x4 x5), .slice none 0 0]) (by simp [results, Tryz.results129, go_sem]) rfl ?_
  exact ⟨_, _, _, _, _, _, _, [], rfl, ⟨HV.out, HD.out.2⟩, by decide, ((HM.out.skip _).skip _).nilRow.toFront⟩
set_option maxHeartbeats 4000000 in
theorem nicout_8 (W : World) (g cap : Nat) (x0 x1 : Nat) (x2 : Bool) (x3 : Int) (x4 : Bool) (x5 : Int) (v : Nat) (at_ : Int) (hd : NicOK x0 x1 x3 x5) (hv : v < 4294967296) (L : List Int) (F : List Ck) (w : World) (hM : Mem W w (memR W.heap.size g cap L :: F)) (hL : MemOK L) :
    Calls Tryz.prog 129 #[.agg (nicA x0 x1 x2 x3 x4 x5), .slice (some ⟨g, 0, none⟩) 256 cap, .int .i64 8, .int .u32 (v : Int), .int .u64 at_] w (NcoTo W g cap L F) := by
  have HM := Lib.hid hM
  obtain ⟨h0, h1, h3, h5⟩ := hd
  have HD : Hid (NicOK x0 x1 x3 x5) := Lib.hid ⟨h0, h1, h3, h5⟩
  have HV : Hid (Wd (v : Int)) := Lib.hid ⟨by omega, by omega⟩
  clear hM h0 h1 h3 h5 hv
  go_enter Tryz.func129, Tryz.ntmps129
  go_wp2
  refine bodyPost_ret (v := .tuple #[.agg (nicA x0 (v : Int) x2 x3 x4 x5), .slice none 0 0]) (by simp [results, Tryz.results129, go_sem]) rfl ?_
  exact ⟨_, _, _, _, _, _, _, [], rfl, ⟨HD.out.1, HV.out, HD.out.2.2⟩, by decide, ((HM.out.skip _).skip _).nilRow.toFront⟩
set_option maxHeartbeats 4000000 in
theorem nicout_9 (W : World) (g cap : Nat) (x0 x1 : Nat) (x2 : Bool) (x3 : Int) (x4 : Bool) (x5 : Int) (v : Nat) (at_ : Int) (hd : NicOK x0 x1 x3 x5) (hv : v < 4294967296) (L : List Int) (F : List Ck) (w : World) (hM : Mem W w (memR W.heap.size g cap L :: F)) (hL : MemOK L) :
    Calls Tryz.prog 129 #[.agg (nicA x0 x1 x2 x3 x4 x5), .slice (some ⟨g, 0, none⟩) 256 cap, .int .i64 9, .int .u32 (v : Int), .int .u64 at_] w (NcoTo W g cap L F) := by
  have HM := Lib.hid hM
  obtain ⟨h0, h1, h3, h5⟩ := hd
  have HD : Hid (NicOK x0 x1 x3 x5) := Lib.hid ⟨h0, h1, h3, h5⟩
  have HV : Hid (Wd (v : Int)) := Lib.hid ⟨by omega, by omega⟩
  have hx0 : x0 < 4294967296 := by have := h0.2; omega
  have HP := Lib.hid fun w => page_any (some ⟨g, 0, none⟩) cap x0 hx0 w
  have zx0 : (x0 : Int) ≤ 4294967295 := by omega
  have yx0 : IntKind.i64.wrap (x0 : Int) = x0 := IntWalk.i64_in _ ⟨by omega, by omega⟩
  rcases (by omega : v = 0 ∨ v = 1 ∨ v = 2 ∨ 3 ≤ v) with rfl | rfl | rfl | hv3
  · clear hM h0 h1 h3 h5 hv
    go_enter Tryz.func129, Tryz.ntmps129
    go_wp2
    refine bodyPost_ret (v := .tuple #[.agg (nicA x0 x1 x2 x3 false 0), .slice none 0 0]) (by simp [results, Tryz.results129, go_sem]) rfl ?_
    exact ⟨_, _, _, _, _, _, _, [], rfl, ⟨HD.out.1, HD.out.2.1, HD.out.2.2.1, ⟨by decide, by decide⟩⟩, by decide, ((HM.out.skip _).skip _).nilRow.toFront⟩
  · by_cases q1 : 1 ≤ x1
    · have y1 : (1 : Int) ≤ x1 := by omega
      by_cases q2 : x1 ≤ 128
      · have y2 : (x1 : Int) ≤ 128 := by omega
        by_cases q3 : x0 < 8
        · have z8 : decide (x0 < 8) = true := by simpa using q3
          rw [z8] at HP
          have HPG := Lib.hid fun (w' : World) (h : Sl 1 uC w' (some ⟨g, 0, none⟩) 256 L) => pageS_any (some ⟨g, 0, none⟩) cap x0 L q3 (memCap hM) w' h
          have M0 := Lib.hid ((hM.allocF (b := w.heap.size) rfl (nicA x0 x1 x2 x3 x4 x5) 53).allocF (b := w.heap.size + 1) (by simp) (nicA 0 0 false 0 false 0) 53)
          clear hL z8 q3 q1 q2
          clear hM h0 h1 h3 h5 hv
          go_enter Tryz.func129, Tryz.ntmps129
          go_wp2_with fail
          refine (HP.out _).mono ?_
          rintro e w3 ⟨rfl, rfl⟩
          go_wp2_with fail
          refine (HPG.out _ (memSl M0.out.up2)).mono ?_
          rintro e w4 ⟨l, hl, rfl, h4⟩
          have M4 := Lib.hid (M0.out.keep h4)
          clear h4
          have hsz : (⟨l.toArray⟩ : ByteArray).size = 128 := by simp [ByteArray.size, hl]
          obtain ⟨s, hs⟩ : ∃ s : ByteArray, (⟨l.toArray⟩ : ByteArray) = s := ⟨_, rfl⟩
          rw [hs] at hsz ⊢
          have ys : (x1 : Int) ≤ s.size := by omega
          clear hs hl hsz
          have y0 : (0 : Int) ≤ x1 := by omega
          go_upto_region 10 with fail
          refine Tl.start 10 (fun w' => w'.heap[w.heap.size]? = some (.cells (nicA x0 x1 x2 x3 x4 x5) 53 (0, 0)) ∧ w'.cell? ⟨w.heap.size, 1, none⟩ = some (.int .u32 (x1 : Int))) (by kernel_rfl) (⟨M4.out.drew.blk 1 rfl, M4.out.drew.cell 1 rfl 1 rfl⟩) (fun hHeld => ?_)
          refine Tl.ty 0 (⟨some 59, .load 53 (.tmp 5), 53, "devices.go:211", #[], none⟩ : Oper) (.agg (nicA x0 x1 x2 x3 x4 x5)) rfl (Big.yields_load 53 rfl rfl rfl (fun w' h => h.1) uNic sNic) (by assumption) ?_
          try simp only [Act.put, Tl.p2, Tl.p3, Tl.p4]
          refine Tl.tf 1 (⟨some 60, .move (.tmp 4), 30, "devices.go:211", #[⟨8, .gcOnly .lateStores⟩], none⟩ : Oper) ?v10 rfl ?hy10 (by assumption) ?_
          case hy10 => (intro w; go_simp; all_goals (with_reducible rfl))
          try simp only [Act.put, Tl.p2, Tl.p3, Tl.p4]
          refine Tl.tf 2 (⟨some 61, .move (.tmp 12), 9, "devices.go:211", #[], none⟩ : Oper) ?v11 rfl ?hy11 (by assumption) ?_
          case hy11 => (intro w; go_simp; all_goals (with_reducible rfl))
          try simp only [Act.put, Tl.p2, Tl.p3, Tl.p4]
          refine Tl.tf 3 (⟨some 62, .fieldAddr 53 (.tmp 5) 1, 0, "devices.go:211", #[], none⟩ : Oper) ?v12 rfl ?hy12 (by assumption) ?_
          case hy12 => (intro w; go_simp; all_goals (with_reducible rfl))
          try simp only [Act.put, Tl.p2, Tl.p3, Tl.p4]
          refine Tl.tk 4 (⟨some 63, .load 40 (.tmp 62), 40, "devices.go:211", #[⟨3, .data⟩], none⟩ : Oper) ?v13 rfl ?hy13 (by assumption) ?_
          case hy13 => (intro w hSw; (try dsimp only at hSw); go_simp; all_goals (with_reducible rfl))
          try simp only [Act.put, Tl.p2, Tl.p3, Tl.p4]
          refine Tl.tf 5 (⟨some 64, .slice 9 (.tmp 61) none (some (.tmp 63)) none, 9, "devices.go:211", #[⟨2, .data⟩, ⟨4, .data⟩], none⟩ : Oper) ?v14 rfl ?hy14 (by assumption) ?_
          case hy14 => (intro w; go_simp; all_goals (with_reducible rfl))
          try simp only [Act.put, Tl.p2, Tl.p3, Tl.p4]
          refine Tl.tf 6 (⟨some 65, .build 215 #[(0, .const (.int .i64 2)), (1, .tmp 60), (3, .tmp 64)], 215, "devices.go:211", #[⟨1, .data⟩, ⟨5, .data⟩, ⟨8, .gcOnly .lateStores⟩], none⟩ : Oper) ?v15 rfl ?hy15 (by assumption) ?_
          case hy15 => (intro w; go_simp; all_goals (with_reducible rfl))
          try simp only [Act.put, Tl.p2, Tl.p3, Tl.p4]
          refine Tl.many (rs := [7, 8]) (by kernel_rfl) (by simp) ?_
          refine Tl.All.cons (o := (⟨some 66, .buildSlice 62 1 #[(0, .tmp 65)], 62, "devices.go:211", #[⟨6, .data⟩, ⟨8, .gcOnly .lateStores⟩], none⟩ : Oper)) rfl (fun K hK => ?_) ?_
          · go_simp
            have M7 := Lib.hid (M4.out.drew.lit (e := 215) (s := 4) (f := oC) ⟨2, at_, 0, s.extract 0 x1⟩ rfl #[.int .i64 2, .int .u64 at_, .int .u32 0, .string (s.extract 0 x1)] rfl rfl)
            refine hK.out _ _ (⟨M7.out.blk 2 rfl, M7.out.cell 2 rfl 1 rfl⟩) (fun hHeld => ?_)
            clear hK K
            try simp only [Act.put, Tl.p2, Tl.p3, Tl.p4]
            refine Tl.step (i := 8) (o := (⟨none, .store 53 (.tmp 10) (.tmp 59), 0, "devices.go:211", #[⟨0, .data⟩, ⟨0, .phase⟩, ⟨1, .textOnly .lateStores⟩, ⟨2, .textOnly .lateStores⟩, ⟨3, .textOnly .lateStores⟩, ⟨4, .textOnly .lateStores⟩, ⟨5, .textOnly .lateStoresUnsure⟩, ⟨6, .textOnly .lateStores⟩, ⟨7, .textOnly .lateStores⟩], none⟩ : Oper)) (by kernel_rfl) rfl (fun K hK => ?_)
            refine Mem.step_storeAll 53 rfl rfl rfl rfl 1 M7.out rfl sNic rfl (nic_one _ _ _ _ _ _) ?_
            intro w8 MM'
            have M8 := Lib.hid MM'
            clear MM'
            simp only [List.set_cons_zero, List.set_cons_succ] at M8
            refine hK.out _ _ (⟨M8.out.blk 2 rfl, M8.out.cell 2 rfl 1 rfl⟩) (fun hHeld => ?_)
            clear hK K
            try simp only [Act.put, Tl.p2, Tl.p3, Tl.p4]
            refine Tl.tf 9 (⟨some 11, .assign (.tmp 66), 62, "devices.go:211", #[⟨7, .data⟩, ⟨8, .chain⟩, ⟨0, .phase⟩, ⟨1, .phase⟩, ⟨2, .phase⟩, ⟨3, .phase⟩, ⟨4, .phase⟩, ⟨5, .phase⟩, ⟨6, .phase⟩, ⟨7, .phase⟩, ⟨8, .phase⟩], none⟩ : Oper) ?v16 rfl ?hy16 (by assumption) ?_
            case hy16 => (intro w; go_simp; all_goals (with_reducible rfl))
            try simp only [Act.put, Tl.p2, Tl.p3, Tl.p4]
            refine Tl.done (by kernel_rfl) ?_ _
            go_wp2
            refine bodyPost_ret (Bx.res_ct Tryz.results129 rfl (load_nic rfl (M8.out.blk 1 rfl))) rfl ?_
            exact ⟨_, _, _, _, _, _, _, _, rfl, HD.out, Nat.le_refl _, keepFst2 M8.out⟩
          refine Tl.All.cons (o := (⟨none, .store 53 (.tmp 10) (.tmp 59), 0, "devices.go:211", #[⟨0, .data⟩, ⟨0, .phase⟩, ⟨1, .textOnly .lateStores⟩, ⟨2, .textOnly .lateStores⟩, ⟨3, .textOnly .lateStores⟩, ⟨4, .textOnly .lateStores⟩, ⟨5, .textOnly .lateStoresUnsure⟩, ⟨6, .textOnly .lateStores⟩, ⟨7, .textOnly .lateStores⟩], none⟩ : Oper)) rfl (fun K hK => ?_) ?_
          · refine Mem.step_storeAll 53 rfl rfl rfl rfl 0 M4.out.drew rfl sNic rfl (nic_one _ _ _ _ _ _) ?_
            intro w8 MM'
            have M7 := Lib.hid MM'
            clear MM'
            simp only [List.set_cons_zero, List.set_cons_succ] at M7
            refine hK.out _ _ (⟨M7.out.blk 1 rfl, M7.out.cell 1 rfl 1 rfl⟩) (fun hHeld => ?_)
            clear hK K
            try simp only [Act.put, Tl.p2, Tl.p3, Tl.p4]
            refine Tl.step (i := 7) (o := (⟨some 66, .buildSlice 62 1 #[(0, .tmp 65)], 62, "devices.go:211", #[⟨6, .data⟩, ⟨8, .gcOnly .lateStores⟩], none⟩ : Oper)) (by kernel_rfl) rfl (fun K hK => ?_)
            go_simp
            have M8 := Lib.hid (M7.out.lit (e := 215) (s := 4) (f := oC) ⟨2, at_, 0, s.extract 0 x1⟩ rfl #[.int .i64 2, .int .u64 at_, .int .u32 0, .string (s.extract 0 x1)] rfl rfl)
            refine hK.out _ _ (⟨M8.out.blk 2 rfl, M8.out.cell 2 rfl 1 rfl⟩) (fun hHeld => ?_)
            clear hK K
            try simp only [Act.put, Tl.p2, Tl.p3, Tl.p4]
            refine Tl.tf 9 (⟨some 11, .assign (.tmp 66), 62, "devices.go:211", #[⟨7, .data⟩, ⟨8, .chain⟩, ⟨0, .phase⟩, ⟨1, .phase⟩, ⟨2, .phase⟩, ⟨3, .phase⟩, ⟨4, .phase⟩, ⟨5, .phase⟩, ⟨6, .phase⟩, ⟨7, .phase⟩, ⟨8, .phase⟩], none⟩ : Oper) ?v17 rfl ?hy17 (by assumption) ?_
            case hy17 => (intro w; go_simp; all_goals (with_reducible rfl))
            try simp only [Act.put, Tl.p2, Tl.p3, Tl.p4]
            refine Tl.done (by kernel_rfl) ?_ _
            go_wp2
            refine bodyPost_ret (Bx.res_ct Tryz.results129 rfl (load_nic rfl (M8.out.blk 1 rfl))) rfl ?_
            exact ⟨_, _, _, _, _, _, _, _, rfl, HD.out, Nat.le_refl _, keepFst2 M8.out⟩
          exact Tl.All.nil
        · have z8 : decide (x0 < 8) = false := by simpa using q3
          rw [z8] at HP
          clear z8 q3
          clear hM h0 h1 h3 h5 hv
          go_enter Tryz.func129, Tryz.ntmps129
          go_wp2_with fail
          refine (HP.out _).mono ?_
          rintro e w3 ⟨rfl, rfl⟩
          go_wp2
          refine bodyPost_ret (v := .tuple #[.agg (nicA x0 x1 x2 x3 x4 x5), .slice none 0 0]) (by simp [results, Tryz.results129, go_sem]) rfl ?_
          exact ⟨_, _, _, _, _, _, _, [], rfl, HD.out, by decide, ((HM.out.skip _).skip _).nilRow.toFront⟩
      · have y2 : ¬ (x1 : Int) ≤ 128 := by omega
        clear hM h0 h1 h3 h5 hv
        go_enter Tryz.func129, Tryz.ntmps129
        go_wp2
        refine bodyPost_ret (v := .tuple #[.agg (nicA x0 x1 x2 x3 x4 x5), .slice none 0 0]) (by simp [results, Tryz.results129, go_sem]) rfl ?_
        exact ⟨_, _, _, _, _, _, _, [], rfl, HD.out, by decide, ((HM.out.skip _).skip _).nilRow.toFront⟩
    · have y1 : ¬ (1 : Int) ≤ x1 := by omega
      clear hM h0 h1 h3 h5 hv
      go_enter Tryz.func129, Tryz.ntmps129
      go_wp2
      refine bodyPost_ret (v := .tuple #[.agg (nicA x0 x1 x2 x3 x4 x5), .slice none 0 0]) (by simp [results, Tryz.results129, go_sem]) rfl ?_
      exact ⟨_, _, _, _, _, _, _, [], rfl, HD.out, by decide, ((HM.out.skip _).skip _).nilRow.toFront⟩
  · by_cases q3 : x0 < 8
    · have z8 : decide (x0 < 8) = true := by simpa using q3
      rw [z8] at HP
      clear z8 q3
      clear hM h0 h1 h3 h5 hv
      cases x2
      · cases x4
        · go_enter Tryz.func129, Tryz.ntmps129
          go_wp2_with fail
          refine (HP.out _).mono ?_
          rintro e w3 ⟨rfl, rfl⟩
          go_wp2
          refine bodyPost_ret (v := .tuple #[.agg (nicA x0 x1 true x0 false x5), .slice none 0 0]) (by simp [results, Tryz.results129, go_sem]) rfl ?_
          exact ⟨_, _, _, _, _, _, _, [], rfl, ⟨HD.out.1, HD.out.2.1, HD.out.1, HD.out.2.2.2⟩, by decide, ((HM.out.skip _).skip _).nilRow.toFront⟩
        · go_enter Tryz.func129, Tryz.ntmps129
          go_wp2_with fail
          refine (HP.out _).mono ?_
          rintro e w3 ⟨rfl, rfl⟩
          go_wp2
          refine bodyPost_ret (v := .tuple #[.agg (nicA x0 x1 false x3 true x5), .slice none 0 0]) (by simp [results, Tryz.results129, go_sem]) rfl ?_
          exact ⟨_, _, _, _, _, _, _, [], rfl, HD.out, by decide, ((HM.out.skip _).skip _).nilRow.toFront⟩
      · go_enter Tryz.func129, Tryz.ntmps129
        go_wp2_with fail
        refine (HP.out _).mono ?_
        rintro e w3 ⟨rfl, rfl⟩
        go_wp2
        refine bodyPost_ret (v := .tuple #[.agg (nicA x0 x1 true x3 x4 x5), .slice none 0 0]) (by simp [results, Tryz.results129, go_sem]) rfl ?_
        exact ⟨_, _, _, _, _, _, _, [], rfl, HD.out, by decide, ((HM.out.skip _).skip _).nilRow.toFront⟩
    · have z8 : decide (x0 < 8) = false := by simpa using q3
      rw [z8] at HP
      clear z8 q3
      clear hM h0 h1 h3 h5 hv
      go_enter Tryz.func129, Tryz.ntmps129
      go_wp2_with fail
      refine (HP.out _).mono ?_
      rintro e w3 ⟨rfl, rfl⟩
      go_wp2
      refine bodyPost_ret (v := .tuple #[.agg (nicA x0 x1 x2 x3 x4 x5), .slice none 0 0]) (by simp [results, Tryz.results129, go_sem]) rfl ?_
      exact ⟨_, _, _, _, _, _, _, [], rfl, HD.out, by decide, ((HM.out.skip _).skip _).nilRow.toFront⟩
  · have z0 : ((v : Int) == 0) = false := by rw [beq_eq_false_iff_ne]; omega
    have z1 : ((v : Int) == 1) = false := by rw [beq_eq_false_iff_ne]; omega
    have z2 : ((v : Int) == 2) = false := by rw [beq_eq_false_iff_ne]; omega
    clear hv3
    clear hM h0 h1 h3 h5 hv
    go_enter Tryz.func129, Tryz.ntmps129
    go_wp2
    refine bodyPost_ret (v := .tuple #[.agg (nicA x0 x1 x2 x3 x4 x5), .slice none 0 0]) (by simp [results, Tryz.results129, go_sem]) rfl ?_
    exact ⟨_, _, _, _, _, _, _, [], rfl, HD.out, by decide, ((HM.out.skip _).skip _).nilRow.toFront⟩
end Ma
end Go.Proofs.YtdacgdokbfcgdaaGreat

namespace Go.Proofs.YtdacgdokbfcgdaaGreat
open Go.RowKit Go.BigFrame Go.Sort Go.Lib
namespace Ma
abbrev macV (C : List Int) (mv : Value) (d : Dv) : Value := .agg (mcA C mv d [])
def lineV (b : Bool) (n : Nat) : Int := if b = true then (2 : Int) ^ n else 0
set_option maxHeartbeats 1000000 in
theorem line_any (b : Bool) (n : Nat) (hn : n < 5) (w : World) : Calls Tryz.prog 138 #[.bool b, .int .i64 (n : Int)] w fun e w' => e = .returned (.int .u32 (lineV b n)) ∧ w = w' := by
  rcases (by omega : n = 0 ∨ n = 1 ∨ n = 2 ∨ n = 3 ∨ n = 4) with rfl | rfl | rfl | rfl | rfl <;> cases b <;>
  · go_enter Tryz.func138, Tryz.ntmps138
    go_wp2
    go_ret
    exact ⟨rfl, rfl⟩
def linesV (d : Dv) : Int := bits .or .u32 (bits .or .u32 (bits .or .u32 (bits .or .u32 (lineV d.tf 0) (lineV (decide (0 < d.keys.size)) 1)) (lineV (d.dst == 2 || d.dst == 3) 2)) (lineV d.nrc 3)) (lineV (balP d.bta d.bgi) 4)
set_option maxHeartbeats 4000000 in
theorem lines_any (C : List Int) (mv : Value) (d : Dv) (hC : C.length = 25) (hb : Wd d.bta) (w : World) : Calls Tryz.prog 113 #[macV C mv d] w fun e w' => e = .returned (.int .u32 (linesV d)) ∧ Held w w' := by
  have HSZ := Lib.hid (show (mcA C mv d []).size = 49 from mc_size hC)
  have HT := Lib.hid (take_tim (mv := mv) (d := d) (X := []) hC)
  have HCo := Lib.hid (take_con (mv := mv) (d := d) (X := []) hC)
  have HDk := Lib.hid (take_dsk (mv := mv) (d := d) (X := []) hC)
  have HNi := Lib.hid (take_nic (mv := mv) (d := d) (X := []) hC)
  have HBa := Lib.hid (take_bal (mv := mv) (d := d) (X := []) hC)
  have hblk := heap_alloc_new w (.cells (mcA C mv d []) 57)
  have HB := Lib.hid fun (w' : World) (h : ∃ p : Regrown, w' = grow (redrawn (w.alloc (.cells (mcA C mv d []) 57)) p.d) p.os) => (show w'.heap[w.heap.size]? = some (.cells (mcA C mv d []) 57 (0, 0)) by
    obtain ⟨p, rfl⟩ := h
    rw [(below_regrown _ p.d p.os).block _ (lt_of_heap hblk)]
    exact hblk)
  have cT := Lib.hid fun d' os => Calls.regrown_of (d := d') (os := os) (timpend_any d.ta d.tf d.td (grow (redrawn (w.alloc (.cells (mcA C mv d []) 57)) d') os))
  have cC := Lib.hid fun d' os => Calls.regrown_of (d := d') (os := os) (conpend_any d.keys (grow (redrawn (w.alloc (.cells (mcA C mv d []) 57)) d') os))
  have cD := Lib.hid fun d' os => Calls.regrown_of (d := d') (os := os) (diskpend_any d.dbs d.dbl d.dfr d.dst d.dcm d.dob d.dof d.dod (grow (redrawn (w.alloc (.cells (mcA C mv d []) 57)) d') os))
  have cN := Lib.hid fun d' os => Calls.regrown_of (d := d') (os := os) (nicpend_any d.nfr d.nln d.nbu d.ngo d.npo d.nrc (grow (redrawn (w.alloc (.cells (mcA C mv d []) 57)) d') os))
  have cB := Lib.hid fun d' os => Calls.regrown_of (d := d') (os := os) (balpend_any d.bta d.bgi hb (grow (redrawn (w.alloc (.cells (mcA C mv d []) 57)) d') os))
  have lineH : ∀ (b : Bool) (n : Nat) (hn : n < 5) (w : World), Calls Tryz.prog 138 #[.bool b, .int .i64 (n : Int)] w fun e w' => e = .returned (.int .u32 (lineV b n)) ∧ Held w w' := fun b n hn w => (line_any b n hn w).mono fun e w' h => ⟨h.1, by rw [← h.2]; exact Held.refl w⟩
  have cL0 := Lib.hid fun (b : Bool) d' os => Calls.regrown_of (d := d') (os := os) (show Calls Tryz.prog 138 #[.bool b, .int .i64 0] (grow (redrawn (w.alloc (.cells (mcA C mv d []) 57)) d') os) _ from lineH b 0 (by decide) (grow (redrawn (w.alloc (.cells (mcA C mv d []) 57)) d') os))
  have cL1 := Lib.hid fun (b : Bool) d' os => Calls.regrown_of (d := d') (os := os) (show Calls Tryz.prog 138 #[.bool b, .int .i64 1] (grow (redrawn (w.alloc (.cells (mcA C mv d []) 57)) d') os) _ from lineH b 1 (by decide) (grow (redrawn (w.alloc (.cells (mcA C mv d []) 57)) d') os))
  have cL2 := Lib.hid fun (b : Bool) d' os => Calls.regrown_of (d := d') (os := os) (show Calls Tryz.prog 138 #[.bool b, .int .i64 2] (grow (redrawn (w.alloc (.cells (mcA C mv d []) 57)) d') os) _ from lineH b 2 (by decide) (grow (redrawn (w.alloc (.cells (mcA C mv d []) 57)) d') os))
  have cL3 := Lib.hid fun (b : Bool) d' os => Calls.regrown_of (d := d') (os := os) (show Calls Tryz.prog 138 #[.bool b, .int .i64 3] (grow (redrawn (w.alloc (.cells (mcA C mv d []) 57)) d') os) _ from lineH b 3 (by decide) (grow (redrawn (w.alloc (.cells (mcA C mv d []) 57)) d') os))
  have cL4 := Lib.hid fun (b : Bool) d' os => Calls.regrown_of (d := d') (os := os) (show Calls Tryz.prog 138 #[.bool b, .int .i64 4] (grow (redrawn (w.alloc (.cells (mcA C mv d []) 57)) d') os) _ from lineH b 4 (by decide) (grow (redrawn (w.alloc (.cells (mcA C mv d []) 57)) d') os))
  clear hblk hb lineH
  unfold linesV
  go_enter Tryz.func113, Tryz.ntmps113
  go_wp2
  refine wp_region_quiet_below (by kernel_rfl) (by kernel_rfl) ?_
  repeat (first
    | (go_big_quiet_want; show Oper.quiet _ (⟨_, Op.load 49 _, _, _, _, _⟩ : Oper) _ _ _; refine Big.quiet_part 49 rfl 27 3 rfl HB.out uTim sTim (by rw [HSZ.out]; decide) HT.out ?_; (try simp only [Act.put, Tl.p2, Tl.p3, Tl.p4]); go_big_quiet_on)
    | (go_big_quiet_want; show Oper.quiet _ (⟨_, Op.load 47 _, _, _, _, _⟩ : Oper) _ _ _; refine Big.quiet_part 47 rfl 26 1 rfl HB.out uCon sCon (by rw [HSZ.out]; decide) HCo.out ?_; (try simp only [Act.put, Tl.p2, Tl.p3, Tl.p4]); go_big_quiet_on)
    | (go_big_quiet_want; show Oper.quiet _ (⟨_, Op.load 51 _, _, _, _, _⟩ : Oper) _ _ _; refine Big.quiet_part 51 rfl 30 8 rfl HB.out uDsk sDsk (by rw [HSZ.out]; decide) HDk.out ?_; (try simp only [Act.put, Tl.p2, Tl.p3, Tl.p4]); go_big_quiet_on)
    | (go_big_quiet_want; show Oper.quiet _ (⟨_, Op.load 53 _, _, _, _, _⟩ : Oper) _ _ _; refine Big.quiet_part 53 rfl 38 6 rfl HB.out uNic sNic (by rw [HSZ.out]; decide) HNi.out ?_; (try simp only [Act.put, Tl.p2, Tl.p3, Tl.p4]); go_big_quiet_on)
    | (go_big_quiet_want; show Oper.quiet _ (⟨_, Op.load 55 _, _, _, _, _⟩ : Oper) _ _ _; refine Big.quiet_part 55 rfl 44 2 rfl HB.out uBal sBal (by rw [HSZ.out]; decide) HBa.out ?_; (try simp only [Act.put, Tl.p2, Tl.p3, Tl.p4]); go_big_quiet_on)
    | (go_big_quiet_step (first
      | (go_at_call 139; with_reducible exact cT.out _ _)
      | (go_at_call 140; with_reducible exact cC.out _ _)
      | (go_at_call 141; with_reducible exact cD.out _ _)
      | (go_at_call 142; with_reducible exact cN.out _ _)
      | (go_at_call 143; with_reducible exact cB.out _ _)
      | (go_at_call 138; first | with_reducible exact cL0.out _ _ _ | with_reducible exact cL1.out _ _ _ | with_reducible exact cL2.out _ _ _ | with_reducible exact cL3.out _ _ _ | with_reducible exact cL4.out _ _ _))))
  refine wpQuiet_nil ?_
  intro w5 hw'
  obtain ⟨⟨dq, osq⟩, hw''⟩ := hw'
  have h5 : Held (w.alloc (.cells (mcA C mv d []) 57)) w5 := by rw [hw'']; exact below_regrown _ dq osq
  have H5 := Lib.hid (((Held.refl w).alloc _).step h5)
  clear hw'' h5 cT cC cD cN cB cL0 cL1 cL2 cL3 cL4 HB
  go_wp2
  go_ret
  exact ⟨rfl, H5.out⟩
def enV (C : List Int) (d : Dv) : Int := bits .and .u32 (linesV d) (C.getD 24 0)
set_option maxHeartbeats 4000000 in
theorem enabled_any (C : List Int) (mv : Value) (d : Dv) (hC : C.length = 25) (hb : Wd d.bta) (w : World) : Calls Tryz.prog 89 #[macV C mv d] w fun e w' => e = .returned (.int .u32 (enV C d)) ∧ Held w w' := by
  have HL := Lib.hid fun w => lines_any C mv d hC hb w
  have HSZ : Is (mcA C mv d []).size 49 := ⟨mc_size hC⟩
  have c24 := mc_cpu (mv := mv) (d := d) (X := []) hC (j := 24) (by decide)
  have M0 := Lib.hid ((Mem.start w).alloc (mcA C mv d []) 57)
  unfold enV
  generalize linesV d = ln at *
  generalize C.getD 24 0 = en at *
  unfold macV at *
  generalize mcA C mv d [] = cA at *
  have HC := Lib.hid fun (w' : World) (h : w'.heap[w.heap.size]? = some (.cells cA 57 (0, 0))) => Bx.cell h 24 c24
  go_enter Tryz.func89, Tryz.ntmps89
  go_upto_region 1 with fail
  refine Tl.start 8 (fun w' => w'.heap[w.heap.size]? = some (.cells cA 57 (0, 0)) ∧ w'.cell? ⟨w.heap.size, 24, none⟩ = some (.int .u32 en)) (by kernel_rfl) (⟨M0.out.drew.blk 0 rfl, HC.out _ (M0.out.drew.blk 0 rfl)⟩) (fun hHeld => ?_)
  refine Tl.ty 0 (⟨some 3, .load 57 (.tmp 1), 57, "machine.go:48", #[], none⟩ : Oper) (.agg cA) rfl (Big.yields_load 57 rfl rfl rfl (fun w' h => h.1) uMac (by rw [HSZ.out]; exact sMac)) (by assumption) ?_
  try simp only [Act.put, Tl.p2, Tl.p3, Tl.p4]
  refine Tl.tf 2 (⟨some 5, .fieldAddr 57 (.tmp 1) 0, 0, "machine.go:48", #[], none⟩ : Oper) ?v2 rfl ?hy2 (by assumption) ?_
  case hy2 => (intro w; go_simp; all_goals (with_reducible rfl))
  try simp only [Act.put, Tl.p2, Tl.p3, Tl.p4]
  refine Tl.tf 3 (⟨some 6, .fieldAddr 44 (.tmp 5) 2, 0, "machine.go:48", #[⟨2, .data⟩], none⟩ : Oper) ?v3 rfl ?hy3 (by assumption) ?_
  case hy3 => (intro w; go_simp; all_goals (with_reducible rfl))
  try simp only [Act.put, Tl.p2, Tl.p3, Tl.p4]
  refine Tl.tf 4 (⟨some 7, .indexAddr 42 (.tmp 6) (.const (.int .i64 7)), 0, "machine.go:48", #[⟨3, .data⟩], none⟩ : Oper) ?v4 rfl ?hy4 (by assumption) ?_
  case hy4 => (intro w; go_simp; all_goals (with_reducible rfl))
  try simp only [Act.put, Tl.p2, Tl.p3, Tl.p4]
  refine Tl.tk 5 (⟨some 8, .load 40 (.tmp 7), 40, "machine.go:48", #[⟨4, .data⟩], none⟩ : Oper) ?v5 rfl ?hy5 (by assumption) ?_
  case hy5 => (intro w hSw; (try dsimp only at hSw); go_simp; all_goals (with_reducible rfl))
  try simp only [Act.put, Tl.p2, Tl.p3, Tl.p4]
  refine Tl.step (i := 1) (o := (⟨some 4, .call { callee := .value (.func 113), args := #[.tmp 3], argTypes := #[57] }, 40, "machine.go:48", #[⟨0, .data⟩], none⟩ : Oper)) (by kernel_rfl) rfl (fun K hK => ?_)
  go_simp
  go_at_call 113
  refine (HL.out _).mono ?_
  rintro e w3 ⟨rfl, h3⟩
  have M3 := Lib.hid (M0.out.drew.keep h3)
  clear h3
  dsimp only
  refine hK.out _ _ (⟨M3.out.blk 0 rfl, HC.out _ (M3.out.blk 0 rfl)⟩) (fun hHeld => ?_)
  clear hK K
  try simp only [Act.put, Tl.p2, Tl.p3, Tl.p4]
  refine Tl.tf 6 (⟨some 9, .binOp .and 40 (.tmp 4) (.tmp 8) 40, 40, "machine.go:48", #[⟨1, .data⟩, ⟨5, .data⟩], none⟩ : Oper) ?v6 rfl ?hy6 (by assumption) ?_
  case hy6 => (intro w; go_simp; all_goals (with_reducible rfl))
  try simp only [Act.put, Tl.p2, Tl.p3, Tl.p4]
  refine Tl.tf 7 (⟨some 2, .assign (.tmp 9), 40, "machine.go:48", #[⟨6, .data⟩, ⟨1, .chain⟩, ⟨0, .phase⟩, ⟨1, .phase⟩, ⟨2, .phase⟩, ⟨3, .phase⟩, ⟨4, .phase⟩, ⟨5, .phase⟩, ⟨6, .phase⟩], none⟩ : Oper) ?v7 rfl ?hy7 (by assumption) ?_
  case hy7 => (intro w; go_simp; all_goals (with_reducible rfl))
  try simp only [Act.put, Tl.p2, Tl.p3, Tl.p4]
  refine Tl.done (by kernel_rfl) ?_ _
  go_wp2
  go_ret
  exact ⟨rfl, M3.out.held⟩
set_option maxHeartbeats 2000000 in
theorem idle_any (C : List Int) (mv : Value) (d : Dv) (hC : C.length = 25) (hb : Wd d.bta) (w : World) : Calls Tryz.prog 63 #[macV C mv d] w (BoolHeld w) := by
  have HL := Lib.hid fun w => enabled_any C mv d hC hb w
  have HSZ : Is (mcA C mv d []).size 49 := ⟨mc_size hC⟩
  have c47 := mc_dv (mv := mv) (X := []) hC (j := 21) (by decide) (v := .bool d.wai) rfl
  have M0 := Lib.hid ((Mem.start w).alloc (mcA C mv d []) 57)
  unfold macV at *
  generalize mcA C mv d [] = cA at *
  cases hw : d.wai
  · rw [hw] at c47
    go_enter Tryz.func63, Tryz.ntmps63
    go_wp2
    go_ret
    exact ⟨_, rfl, M0.out.held⟩
  · rw [hw] at c47
    go_enter Tryz.func63, Tryz.ntmps63
    go_wp2_with (show wpList _ _ _ ((⟨_, Op.load 57 _, _, _, _, _⟩ : Oper) :: _) _ _; refine Mem.go_loadAllG 57 rfl rfl rfl 0 M0.out rfl uMac (by rw [HSZ.out]; exact sMac) ?_)
    refine (HL.out _).mono ?_
    rintro e w3 ⟨rfl, h3⟩
    have M3 := Lib.hid (M0.out.keep h3)
    clear h3
    go_wp2
    go_ret
    exact ⟨_, rfl, M3.out.held⟩
end Ma
end Go.Proofs.YtdacgdokbfcgdaaGreat
