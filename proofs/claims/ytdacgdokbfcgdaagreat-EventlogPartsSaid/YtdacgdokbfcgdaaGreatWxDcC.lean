/-
  Contracts: reader.word, reader.event of the program (chapters 19, 24).
-/
import Derived.Test.YtdacgdokbfcgdaaGreatW16
import Derived.Test.YtdacgdokbfcgdaaGreatW20
import Derived.Test.YtdacgdokbfcgdaaGreatW1
import Derived.Deep.DeepCutAuto
import Derived.Outline
set_option linter.unusedVariables false
set_option linter.unusedSimpArgs false
set_option maxRecDepth 100000
namespace Go.Proofs.YtdacgdokbfcgdaaGreat
open Go.RowKit Go.Lib
namespace Mem
/-- A call that has turned a box of the call's own. -/
theorem callBx {W w w' : World} {H : List Ck} (h : Mem W w H) (i : Nat) {b : Nat} {cs cs' : Array Value} {t : TypeId} (hi : H[i]? = some (.box b cs t)) (hg : w.grownBy w' (some b)) (hb : w'.heap[b]? = some (.cells cs' t (0, 0))) : Mem W w' (H.set i (.box b cs' t)) := by
  refine h.upd hi _ ⟨hg.os, hg.tape, hg.output, hg.size, fun k hk => absurd hk (Nat.not_lt_zero k)⟩ (fun b' hlt hb' => hg.block b' hlt (fun q => hb' (by injection q with q; simp [Ck.box, q]))) hb (fun b' hb' => .inl hb')
end Mem
namespace Enc
open Uv Lg Lgc Strs
def wordR (l : List UInt8) (bad : Bool) : Nat × List UInt8 × Bool := if 4294967295 < (numR l bad).1 then (0, (numR l bad).2.1, true) else numR l bad
theorem wordR_put (x : Nat) (hx : x ≤ 4294967295) (t : List UInt8) : wordR (put x ++ t) false = (x, t, false) := by
  unfold wordR
  rw [numR_put x (by omega) t, if_neg (by simp only; omega)]
theorem word_any (b : Nat) (s : ByteArray) (bad : Bool) (hs : s.size ≤ 9223372036854775807) (w : World) (hb : w.heap[b]? = some (.cells #[.string s, .bool bad] 87 (0, 0))) :
    Calls Tryz.prog 47 #[.pointer (some ⟨b, 0, none⟩)] w (Reads 87 (.int .u32 (wordR s.data.toList bad).1) b (wordR s.data.toList bad).2.1 (wordR s.data.toList bad).2.2 w) := by
  have hlt := numR_lt s.data.toList bad
  have hn := number_any b s bad hs w hb
  obtain ⟨x, t, b2, hnr⟩ : ∃ x t b2, numR s.data.toList bad = (x, t, b2) := ⟨_, _, _, rfl⟩
  have HW : Is (wordR s.data.toList bad) (if 4294967295 < x then (0, t, true) else (x, t, b2)) := ⟨by unfold wordR; rw [hnr]⟩
  rw [hnr] at hn hlt
  have HN := Lib.hid hn
  clear hnr hn
  by_cases h1 : (4294967295 : Int) < x
  · have HW2 : Is (wordR s.data.toList bad) (0, t, true) := ⟨by rw [HW.out, if_pos (by omega)]⟩
    rw [HW2.out]
    go_enter Tryz.func47, Tryz.ntmps47
    go_wp2_with fail
    refine HN.out.mono ?_
    rintro e w1 ⟨rfl, s1, hs1, hb1, hg⟩
    have c1 := box_cell hb1 1 rfl
    have f1 := box_free hb1 1
    have HB := Lib.hid hb1
    have HG := Lib.hid hg
    clear hb1 hg
    go_wp2
    go_ret
    refine ⟨rfl, s1, hs1, ?_, ?_⟩
    · rw [box_set HB.out]; rfl
    · exact grown_trans HG.out (grown_set _ _ _ _)
  · have HW2 : Is (wordR s.data.toList bad) (x, t, b2) := ⟨by rw [HW.out, if_neg (by omega)]⟩
    rw [HW2.out]
    have hx : (x : Int) ≤ 4294967295 := by omega
    go_enter Tryz.func47, Tryz.ntmps47
    go_wp2_with fail
    refine HN.out.mono ?_
    rintro e w1 ⟨rfl, s1, hs1, hb1, hg⟩
    have HB := Lib.hid hb1
    have HG := Lib.hid hg
    clear hb1 hg
    go_wp2
    go_ret
    exact ⟨rfl, s1, hs1, HB.out, HG.out⟩
theorem word_len (l : List UInt8) (b : Bool) : (wordR l b).2.1.length ≤ l.length := by
  have := numR_len l b
  unfold wordR; split <;> exact this
theorem word_lt (l : List UInt8) (b : Bool) : (wordR l b).1 ≤ 4294967295 := by
  unfold wordR; split
  · exact Nat.zero_le _
  · omega
/-- An event, read. -/
structure EvV where
  k : Nat
  n : Nat
  d : List UInt8
  t : List UInt8
  b : Bool
def evR (l : List UInt8) (bad : Bool) : EvV :=
  let k := (wordR l bad).1
  let t1 := (wordR l bad).2.1
  let b1 := (wordR l bad).2.2
  if k = 1 ∨ k = 3 ∨ k = 6 then ⟨k, (wordR t1 b1).1, [], (wordR t1 b1).2.1, (wordR t1 b1).2.2⟩
  else if k = 4 then ⟨k, (wordR t1 b1).1, (dataR (wordR t1 b1).2.1 (wordR t1 b1).2.2).1, (dataR (wordR t1 b1).2.1 (wordR t1 b1).2.2).2.1, (dataR (wordR t1 b1).2.1 (wordR t1 b1).2.2).2.2⟩
  else if k = 5 then ⟨k, 0, (dataR t1 b1).1, (dataR t1 b1).2.1, (dataR t1 b1).2.2⟩
  else ⟨k, 0, [], t1, b1⟩
theorem dataR_put2 (d t : List UInt8) (h : d.length < 18446744073709551616) : dataR (put d.length ++ (d ++ t)) false = (d, t, false) := by
  unfold dataR
  rw [numR_put _ h]
  unfold bytesR
  simp
theorem evR_enc {k n : Int} {d : List UInt8} (hv : Ev.ok k n d = true) (hn : 0 ≤ n ∧ n ≤ 4294967295) (t : List UInt8) : evR (encE k n d ++ t) false = ⟨k.toNat, n.toNat, d, t, false⟩ := by
  obtain ⟨b1, b2, b3⟩ := ok_bd hv
  rcases (by omega : (k = 1 ∨ k = 3 ∨ k = 6) ∨ k = 2 ∨ k = 4 ∨ k = 5) with hk | hk | hk | hk
  · rw [encE_1 hk, List.append_assoc]
    unfold evR
    rw [wordR_put _ (by omega)]
    simp only
    rw [if_pos (by omega), wordR_put _ (by omega), ok_1 hv hk]
  · subst hk
    rw [encE_2 rfl]
    unfold evR
    rw [wordR_put _ (by omega)]
    simp only
    rw [if_neg (by decide), if_neg (by decide), if_neg (by decide), (ok_2 hv).1, (ok_2 hv).2]; rfl
  · subst hk
    rw [encE_4 rfl]
    simp only [List.append_assoc]
    unfold evR
    rw [wordR_put _ (by omega)]
    simp only
    rw [if_neg (by decide), if_pos (by decide), wordR_put _ (by omega), dataR_put2 _ _ (by omega)]
  · subst hk
    rw [encE_5 rfl]
    simp only [List.append_assoc]
    unfold evR
    rw [wordR_put _ (by omega)]
    simp only
    rw [if_neg (by decide), if_neg (by decide), if_pos (by decide), dataR_put2 _ _ (by omega), ok_5 hv]; rfl
def EvTo (b : Nat) (v : EvV) (w : World) (e : Ending) (w' : World) : Prop := ∃ ds : ByteArray, e = .returned (.agg #[.int .i64 (v.k : Int), .int .u32 (v.n : Int), .string ds]) ∧ ds.data.toList = v.d ∧ Lgc.Left 87 b v.t v.b w w'
end Enc
end Go.Proofs.YtdacgdokbfcgdaaGreat
