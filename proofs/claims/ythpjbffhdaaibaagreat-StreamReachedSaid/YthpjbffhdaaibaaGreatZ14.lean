/-
  Contracts of the reference: reader.word, reader.event (printed by wip/tools/mkrsc.py; chapters 19, 24).
  Contracts of the reference: u, put, Ordered (chapters 19, 24).
  Bytes in a block of the call's own that is known by its cells alone (a converted string's block): append of a string, the string of them.
  Contracts of the reference: Encode (chapters 19, 24).
  Contracts of the reference: Decode (chapters 19, 24).
-/
import Derived.Test.YthpjbffhdaaibaaGreatZ9
import Derived.Test.YthpjbffhdaaibaaGreatZ7
import Derived.Test.YthpjbffhdaaibaaGreatZ3
import Derived.Test.YthpjbffhdaaibaaGreatZ8
import Derived.Lib.QuietBelow
import Derived.Test.YthpjbffhdaaibaaGreatZ1
import Derived.Lib.AppendStr
import Derived.Laws.IdiomCopy
import Derived.Deep.DeepCutAuto
set_option linter.unusedVariables false
set_option linter.unusedSimpArgs false
set_option maxRecDepth 100000
namespace Go.Proofs.YthpjbffhdaaibaaGreat
open Go.RowKit Go.Lib
namespace Enc
open Uv Lg Lgc Strs
def wordQ (l : List UInt8) (bad : Bool) : Nat × List UInt8 × Bool := ((numR l bad).1 &&& 4294967295, (numR l bad).2.1, (numR l bad).2.2 || decide (4294967295 < (numR l bad).1))
theorem wordQ_put (x : Nat) (hx : x ≤ 4294967295) (t : List UInt8) : wordQ (put x ++ t) false = (x, t, false) := by
  unfold wordQ
  rw [numR_put x (by omega) t]
  simp only
  rw [show (4294967295 : Nat) = 2 ^ 32 - 1 from rfl, Nat.and_two_pow_sub_one_eq_mod, Nat.mod_eq_of_lt (by omega)]
  simp; omega
theorem wordQ_lt (l : List UInt8) (b : Bool) : (wordQ l b).1 ≤ 4294967295 := Nat.and_le_right
theorem wordQ_len (l : List UInt8) (b : Bool) : (wordQ l b).2.1.length ≤ l.length := numR_len l b
theorem wordr_any (b : Nat) (s : ByteArray) (bad : Bool) (hs : s.size ≤ 9223372036854775807) (w : World) (hb : w.heap[b]? = some (.cells #[.string s, .bool bad] 123 (0, 0))) :
    Calls Tryz.prog 106 #[.pointer (some ⟨b, 0, none⟩)] w (Reads 123 (.int .u32 (wordQ s.data.toList bad).1) b (wordQ s.data.toList bad).2.1 (wordQ s.data.toList bad).2.2 w) := by
  have hlt := numR_lt s.data.toList bad
  have hn := number_ref_any b s bad hs w hb
  obtain ⟨x, t, b2, hnr⟩ : ∃ x t b2, numR s.data.toList bad = (x, t, b2) := ⟨_, _, _, rfl⟩
  have HW : Is (wordQ s.data.toList bad) (x &&& 4294967295, t, b2 || decide (4294967295 < x)) := ⟨by unfold wordQ; rw [hnr]⟩
  rw [HW.out]
  rw [hnr] at hn hlt
  have hy : x &&& 4294967295 ≤ 4294967295 := Nat.and_le_right
  have ha := u64_and_nat x 4294967295 hlt (by omega)
  have HN := Lib.hid hn
  clear hnr hn HW
  obtain ⟨y, hye⟩ : ∃ y, x &&& 4294967295 = y := ⟨_, rfl⟩
  rw [hye] at hy ha ⊢
  have ha2 : bits .and .u64 (x : Int) 4294967295 = (y : Int) := ha
  have hw : IntKind.u32.wrap (y : Int) = (y : Int) := IntWalk.u32_in _ (by omega)
  clear ha hye
  by_cases h1 : (4294967295 : Int) < x
  · have hd : decide (4294967295 < x) = true := decide_eq_true (by omega)
    rw [hd]
    go_enter Tryz.func106, Tryz.ntmps106
    go_wp2_with fail
    refine HN.out.mono ?_
    rintro e w1 ⟨rfl, s1, hs1, hb1, hg⟩
    have c1 := box_cell hb1 1 rfl
    have f1 := box_free hb1 1
    have HB := Lib.hid hb1
    have HG := Lib.hid hg
    clear hb1 hg
    go_wp2
    go_ret
    refine ⟨rfl, s1, hs1, ?_, ?_⟩
    · rw [box_set HB.out]; simp
    · exact grown_trans HG.out (grown_set _ _ _ _)
  · have hd : decide (4294967295 < x) = false := decide_eq_false (by omega)
    rw [hd, Bool.or_false]
    go_enter Tryz.func106, Tryz.ntmps106
    go_wp2_with fail
    refine HN.out.mono ?_
    rintro e w1 ⟨rfl, s1, hs1, hb1, hg⟩
    have HB := Lib.hid hb1
    have HG := Lib.hid hg
    clear hb1 hg
    go_wp2
    go_ret
    exact ⟨rfl, s1, hs1, HB.out, HG.out⟩
/-- An event, read by the reference. -/
def evQ (l : List UInt8) (bad : Bool) : EvV :=
  let k := (numR l bad).1
  let t1 := (numR l bad).2.1
  let b1 := (numR l bad).2.2
  if 6 < k then ⟨0, 0, [], t1, true⟩
  else if k = 1 ∨ k = 3 ∨ k = 6 then ⟨k, (wordQ t1 b1).1, [], (wordQ t1 b1).2.1, (wordQ t1 b1).2.2⟩
  else if k = 4 then ⟨k, (wordQ t1 b1).1, (dataR (wordQ t1 b1).2.1 (wordQ t1 b1).2.2).1, (dataR (wordQ t1 b1).2.1 (wordQ t1 b1).2.2).2.1, (dataR (wordQ t1 b1).2.1 (wordQ t1 b1).2.2).2.2⟩
  else if k = 5 then ⟨k, 0, (dataR t1 b1).1, (dataR t1 b1).2.1, (dataR t1 b1).2.2⟩
  else ⟨k, 0, [], t1, b1⟩
theorem evQ_enc {k n : Int} {d : List UInt8} (hv : Ev.ok k n d = true) (hn : 0 ≤ n ∧ n ≤ 4294967295) (t : List UInt8) : evQ (encE k n d ++ t) false = ⟨k.toNat, n.toNat, d, t, false⟩ := by
  obtain ⟨b1, b2, b3⟩ := ok_bd hv
  rcases (by omega : (k = 1 ∨ k = 3 ∨ k = 6) ∨ k = 2 ∨ k = 4 ∨ k = 5) with hk | hk | hk | hk
  · rw [encE_1 hk, List.append_assoc]
    unfold evQ
    rw [numR_put _ (by omega)]
    simp only
    rw [if_neg (by omega), if_pos (by omega), wordQ_put _ (by omega), ok_1 hv hk]
  · subst hk
    rw [encE_2 rfl]
    unfold evQ
    rw [numR_put _ (by omega)]
    simp only
    rw [if_neg (by decide), if_neg (by decide), if_neg (by decide), if_neg (by decide), (ok_2 hv).1, (ok_2 hv).2]; rfl
  · subst hk
    rw [encE_4 rfl]
    simp only [List.append_assoc]
    unfold evQ
    rw [numR_put _ (by omega)]
    simp only
    rw [if_neg (by decide), if_neg (by decide), if_pos (by decide), wordQ_put _ (by omega), dataR_put2 _ _ (by omega)]
  · subst hk
    rw [encE_5 rfl]
    simp only [List.append_assoc]
    unfold evQ
    rw [numR_put _ (by omega)]
    simp only
    rw [if_neg (by decide), if_neg (by decide), if_neg (by decide), if_pos (by decide), dataR_put2 _ _ (by omega), ok_5 hv]; rfl
theorem evQ_bad (l : List UInt8) : (evQ l true).b = true := by
  have h : (numR l true).1 = 0 ∧ (numR l true).2.2 = true := ⟨by rw [numR_no (by simp)], numR_bad l⟩
  unfold evQ
  simp only [h.1, h.2]
  rw [if_neg (by decide), if_neg (by decide), if_neg (by decide), if_neg (by decide)]
theorem evQ_lens (l : List UInt8) (b : Bool) : (evQ l b).k ≤ 6 ∧ (evQ l b).n ≤ 4294967295 ∧ (evQ l b).d.length ≤ l.length ∧ (evQ l b).t.length ≤ l.length := by
  have h2 := numR_len l b
  have h3 := wordQ_lt (numR l b).2.1 (numR l b).2.2
  have h4 := wordQ_len (numR l b).2.1 (numR l b).2.2
  have h5 := dataR_len (numR l b).2.1 (numR l b).2.2
  have h6 := dataR_len (wordQ (numR l b).2.1 (numR l b).2.2).2.1 (wordQ (numR l b).2.1 (numR l b).2.2).2.2
  unfold evQ
  simp only
  split
  · simp only [List.length_nil]; omega
  · split
    · simp only [List.length_nil]; omega
    · split
      · simp only; omega
      · split
        · simp only; omega
        · simp only [List.length_nil]; omega
def EvToR (b : Nat) (v : EvV) (w : World) (e : Ending) (w' : World) : Prop := ∃ ds : ByteArray, e = .returned (.agg #[.int .i64 (v.k : Int), .int .u32 (v.n : Int), .string ds]) ∧ ds.data.toList = v.d ∧ Lgc.Left 123 b v.t v.b w w'
/-- Three blocks known whole: the reader's, the result's, the event's. -/
structure E3R (w : World) (b r e : Nat) (bc rc ec : Array Value) : Prop where
  hb : w.heap[b]? = some (.cells bc 123 (0, 0))
  hr : w.heap[r]? = some (.cells rc 68 (0, 0))
  he : w.heap[e]? = some (.cells ec 68 (0, 0))
  n1 : r ≠ b
  n2 : e ≠ b
  n3 : e ≠ r
namespace E3R
variable {w w' : World} {b r e : Nat} {bc rc ec : Array Value}
theorem call {bc' : Array Value} (h : E3R w b r e bc rc ec) (hg : w.grownBy w' (some b)) (hb : w'.heap[b]? = some (.cells bc' 123 (0, 0))) : E3R w' b r e bc' rc ec :=
  ⟨hb, grown_keeps hg h.n1 h.hr, grown_keeps hg h.n2 h.he, h.n1, h.n2, h.n3⟩
theorem putB (h : E3R w b r e bc rc ec) (j : Nat) (v : Value) : E3R (w.setCell ⟨b, j, none⟩ v) b r e (bc.setIfInBounds j v) rc ec :=
  ⟨Bx.set h.hb j v, (Bx.far h.n1).trans h.hr, (Bx.far h.n2).trans h.he, h.n1, h.n2, h.n3⟩
theorem putE (h : E3R w b r e bc rc ec) (j : Nat) (v : Value) : E3R (w.setCell ⟨e, j, none⟩ v) b r e bc rc (ec.setIfInBounds j v) :=
  ⟨(Bx.far (Ne.symm h.n2)).trans h.hb, (Bx.far (Ne.symm h.n3)).trans h.hr, Bx.set h.he j v, h.n1, h.n2, h.n3⟩
theorem putR (h : E3R w b r e bc rc ec) (j : Nat) (v : Value) : E3R (w.setCell ⟨r, j, none⟩ v) b r e bc (rc.setIfInBounds j v) ec :=
  ⟨(Bx.far (Ne.symm h.n1)).trans h.hb, Bx.set h.hr j v, (Bx.far h.n3).trans h.he, h.n1, h.n2, h.n3⟩
theorem facts {x0 x1 x2 : Value} (h : E3R w b r e bc rc #[x0, x1, x2]) : (w.cell? ⟨e, 0, none⟩ = some x0 ∧ w.cell? ⟨e, 1, none⟩ = some x1 ∧ w.cell? ⟨e, 2, none⟩ = some x2) ∧ (w.frozen? ⟨e, 0, none⟩ = false ∧ w.frozen? ⟨e, 1, none⟩ = false ∧ w.frozen? ⟨e, 2, none⟩ = false) ∧ e < w.heap.size :=
  ⟨⟨Bx.cell h.he 0 rfl, Bx.cell h.he 1 rfl, Bx.cell h.he 2 rfl⟩, ⟨Bx.free h.he 0, Bx.free h.he 1, Bx.free h.he 2⟩, Bx.lt h.he⟩
theorem rfacts {x0 x1 x2 : Value} (h : E3R w b r e bc #[x0, x1, x2] ec) : (w.cell? ⟨r, 0, none⟩ = some x0 ∧ w.cell? ⟨r, 1, none⟩ = some x1 ∧ w.cell? ⟨r, 2, none⟩ = some x2) ∧ (w.frozen? ⟨r, 0, none⟩ = false ∧ w.frozen? ⟨r, 1, none⟩ = false ∧ w.frozen? ⟨r, 2, none⟩ = false) ∧ r < w.heap.size :=
  ⟨⟨Bx.cell h.hr 0 rfl, Bx.cell h.hr 1 rfl, Bx.cell h.hr 2 rfl⟩, ⟨Bx.free h.hr 0, Bx.free h.hr 1, Bx.free h.hr 2⟩, Bx.lt h.hr⟩
theorem bfacts {x0 x1 : Value} (h : E3R w b r e #[x0, x1] rc ec) : (w.cell? ⟨b, 0, none⟩ = some x0 ∧ w.cell? ⟨b, 1, none⟩ = some x1) ∧ (w.frozen? ⟨b, 0, none⟩ = false ∧ w.frozen? ⟨b, 1, none⟩ = false) ∧ b < w.heap.size :=
  ⟨⟨Bx.cell h.hb 0 rfl, Bx.cell h.hb 1 rfl⟩, ⟨Bx.free h.hb 0, Bx.free h.hb 1⟩, Bx.lt h.hb⟩
theorem rfin {x0 x1 x2 : Value} (h : E3R w b r e bc #[x0, x1, x2] ec) (y0 y1 y2 : Value) : (((w.setCell ⟨r, 0, none⟩ y0).setCell ⟨r, 1, none⟩ y1).setCell ⟨r, 2, none⟩ y2).heap[r]? = some (.cells #[y0, y1, y2] 68 (0, 0)) ∧ (((w.setCell ⟨r, 0, none⟩ y0).setCell ⟨r, 1, none⟩ y1).setCell ⟨r, 2, none⟩ y2).heap[b]? = some (.cells bc 123 (0, 0)) :=
  ⟨(((h.putR 0 y0).putR 1 y1).putR 2 y2).hr, (((h.putR 0 y0).putR 1 y1).putR 2 y2).hb⟩
end E3R
set_option maxHeartbeats 8000000 in
theorem eventr_any (b : Nat) (s : ByteArray) (bad : Bool) (hs : s.size ≤ 9223372036854775807) (w : World) (hb : w.heap[b]? = some (.cells #[.string s, .bool bad] 123 (0, 0))) :
    Calls Tryz.prog 81 #[.pointer (some ⟨b, 0, none⟩)] w (EvToR b (evQ s.data.toList bad) w) := by
  obtain ⟨l, hl⟩ : ∃ l, s.data.toList = l := ⟨_, rfl⟩
  have hsl : s.size = l.length := by rw [← hl, len_eq]
  obtain ⟨k, t1, b1, hw⟩ : ∃ k t1 b1, numR l bad = (k, t1, b1) := ⟨_, _, _, rfl⟩
  have htl := numR_len l bad
  have hkl := numR_lt l bad
  rw [hw] at htl hkl
  simp only at htl hkl
  have hE : evQ l bad = if 6 < k then ⟨0, 0, [], t1, true⟩ else if k = 1 ∨ k = 3 ∨ k = 6 then ⟨k, (wordQ t1 b1).1, [], (wordQ t1 b1).2.1, (wordQ t1 b1).2.2⟩
      else if k = 4 then ⟨k, (wordQ t1 b1).1, (dataR (wordQ t1 b1).2.1 (wordQ t1 b1).2.2).1, (dataR (wordQ t1 b1).2.1 (wordQ t1 b1).2.2).2.1, (dataR (wordQ t1 b1).2.1 (wordQ t1 b1).2.2).2.2⟩
      else if k = 5 then ⟨k, 0, (dataR t1 b1).1, (dataR t1 b1).2.1, (dataR t1 b1).2.2⟩ else ⟨k, 0, [], t1, b1⟩ := by
    unfold evQ; rw [hw]
  have HE := Lib.hid hE
  rw [hl]
  have hblt : b < w.heap.size := (Array.getElem?_eq_some_iff.1 hb).1
  have hll : l.length ≤ 9223372036854775807 := by omega
  have X0 : Hid (E3R ((w.alloc (.cells #[.int .i64 0, .int .u32 0, .string ⟨#[]⟩] 68)).alloc (.cells #[.int .i64 0, .int .u32 0, .string ⟨#[]⟩] 68)) b w.heap.size (w.heap.size + 1) #[.string s, .bool bad] #[.int .i64 0, .int .u32 0, .string ⟨#[]⟩] #[.int .i64 0, .int .u32 0, .string ⟨#[]⟩]) :=
    Lib.hid ⟨Bx.held (Bx.held hb ((Held.refl w).alloc _)) ((Held.refl _).alloc _), Bx.held (Bx.new w _) ((Held.refl _).alloc _), by have := Bx.new (w.alloc (.cells #[.int .i64 0, .int .u32 0, .string ⟨#[]⟩] 68)) (.cells #[.int .i64 0, .int .u32 0, .string ⟨#[]⟩] 68); simpa using this, by omega, by omega, by omega⟩
  have G0 := Lib.hid (grown_held (r := some b) (((Held.refl w).alloc (.cells #[.int .i64 0, .int .u32 0, .string ⟨#[]⟩] 68)).alloc (.cells #[.int .i64 0, .int .u32 0, .string ⟨#[]⟩] 68)))
  have hwd := number_ref_any b s bad hs _ X0.out.hb
  rw [hl, hw] at hwd
  have HWD := Lib.hid hwd
  have hne1 : ¬ b = w.heap.size := by omega
  have hne2 : ¬ b = w.heap.size + 1 := by omega
  have hne3 : ¬ w.heap.size = b := by omega
  have hne4 : ¬ w.heap.size + 1 = b := by omega
  clear hl hw hE hwd hb hsl
  go_enter Tryz.func81, Tryz.ntmps81
  go_wp2_with fail
  refine HWD.out.mono ?_
  rintro e w1 ⟨rfl, s1, hs1, hb1, hg1⟩
  dsimp only at hs1 hb1 ⊢
  have HS1 : Is s1.data.toList t1 := ⟨hs1⟩
  have hl1 : s1.size = t1.length := by rw [← hs1, len_eq]
  have X1 := Lib.hid (X0.out.call hg1 hb1)
  have G1 := Lib.hid (grown_trans G0.out hg1)
  have hz1 : w.heap.size ≤ w1.heap.size := G1.out.size
  clear hs1 hb1 hg1 X0 G0 HWD
  obtain ⟨re, hre⟩ : ∃ re, w.heap.size + 1 = re := ⟨_, rfl⟩
  rw [hre] at X1 hne2 hne4 ⊢
  have hre2 : w.heap.size ≤ re := by omega
  clear hre
  obtain ⟨⟨q0, q1, q2⟩, ⟨qf0, qf1, qf2⟩, qlt⟩ := X1.out.facts
  obtain ⟨⟨r0, r1, r2⟩, ⟨rf0, rf1, rf2⟩, rlt⟩ := X1.out.rfacts
  have hn3 := X1.out.n3
  have hn4 : w.heap.size ≠ re := fun e => hn3 e.symm
  by_cases h6 : (6 : Int) < k
  · have HEV : Is (evQ l bad) ⟨0, 0, [], t1, true⟩ := ⟨by rw [HE.out, if_pos (by omega)]⟩
    obtain ⟨⟨p0, p1⟩, ⟨pf0, pf1⟩, plt⟩ := X1.out.bfacts
    go_wp2
    have X2 := X1.out.putB 1 (.bool true)
    obtain ⟨MR, MB⟩ := X2.rfin (.int .i64 0) (.int .u32 0) (.string ⟨#[]⟩)
    have G2 := grown_new (q := w.heap.size) (Nat.le_refl _) 2 (.string ⟨#[]⟩) (grown_new (q := w.heap.size) (Nat.le_refl _) 1 (.int .u32 0) (grown_new (q := w.heap.size) (Nat.le_refl _) 0 (.int .i64 0) (grown_trans G1.out (grown_set _ b 1 (.bool true)))))
    clear X1 q0 q1 q2 qf0 qf1 qf2 qlt r0 r1 r2 rf0 rf1 rf2 rlt p0 p1 pf0 pf1 plt
    refine bodyPost_ret (Bx.res_c Tryz.results81 rfl (ev_load MR)) rfl ?_
    rw [HEV.out]
    exact ⟨⟨#[]⟩, rfl, rfl, s1, HS1.out, MB, G2⟩
  have hk6 : k ≤ 6 := by omega
  have HK6 : ¬ 6 < k := by omega
  have HE2 := Lib.hid (HE.out.trans (if_neg HK6))
  have X2 := Lib.hid (X1.out.putE 0 (.int .i64 (k : Int)))
  have G2 := Lib.hid (grown_new (q := re) hre2 0 (.int .i64 (k : Int)) G1.out)
  clear HE HK6
  by_cases c1 : k = 1
  · subst c1
    obtain ⟨n2, t2, b2, hw2⟩ : ∃ n2 t2 b2, wordQ t1 b1 = (n2, t2, b2) := ⟨_, _, _, rfl⟩
    have hwl := wordQ_len t1 b1
    rw [hw2] at hwl
    simp only at hwl
    have HW2 : Is (wordQ t1 b1) (n2, t2, b2) := ⟨hw2⟩
    have hwd := wordr_any b s1 b1 (by omega) _ X2.out.hb
    rw [HS1.out, hw2] at hwd
    have HWD := Lib.hid hwd
    clear hwd hw2 r0 r1 r2 rf0 rf1 rf2 rlt
    go_wp2_with fail
    refine HWD.out.mono ?_
    rintro e w2 ⟨rfl, s2, hs2, hb2, hg2⟩
    dsimp only at hs2 hb2 ⊢
    have HS2 : Is s2.data.toList t2 := ⟨hs2⟩
    have hl2 : s2.size = t2.length := by rw [← hs2, len_eq]
    have X3 := Lib.hid (X2.out.call hg2 hb2)
    have G3 := Lib.hid (grown_trans G2.out hg2)
    clear hs2 hb2 hg2 HWD q0 q1 q2 qf0 qf1 qf2 qlt X1 X2 G1 G2
    obtain ⟨⟨q0, q1, q2⟩, ⟨qf0, qf1, qf2⟩, qlt⟩ := X3.out.facts
    have X4 := Lib.hid (X3.out.putE 1 (.int .u32 (n2 : Int)))
    have G4 := Lib.hid (grown_new (q := re) hre2 1 (.int .u32 (n2 : Int)) G3.out)
    have HEV : Is (evQ l bad) ⟨1, n2, [], t2, b2⟩ := ⟨by rw [HE2.out, HW2.out]; rfl⟩
    obtain ⟨⟨r0, r1, r2⟩, ⟨rf0, rf1, rf2⟩, rlt⟩ := X3.out.rfacts
    go_wp2
    clear q0 q1 q2 qf0 qf1 qf2 qlt r0 r1 r2 rf0 rf1 rf2 rlt
    have X9 := X4.out
    obtain ⟨MR, MB⟩ := X9.rfin (.int .i64 1) (.int .u32 (n2 : Int)) (.string ⟨#[]⟩)
    have G9 := grown_new (q := w.heap.size) (Nat.le_refl _) 2 (.string ⟨#[]⟩) (grown_new (q := w.heap.size) (Nat.le_refl _) 1 (.int .u32 (n2 : Int)) (grown_new (q := w.heap.size) (Nat.le_refl _) 0 (.int .i64 1) G4.out))
    refine bodyPost_ret (Bx.res_c Tryz.results81 rfl (ev_load MR)) rfl ?_
    rw [HEV.out]
    exact ⟨⟨#[]⟩, rfl, rfl, s2, HS2.out, MB, G9⟩
  by_cases c3 : k = 3
  · subst c3
    obtain ⟨n2, t2, b2, hw2⟩ : ∃ n2 t2 b2, wordQ t1 b1 = (n2, t2, b2) := ⟨_, _, _, rfl⟩
    have hwl := wordQ_len t1 b1
    rw [hw2] at hwl
    simp only at hwl
    have HW2 : Is (wordQ t1 b1) (n2, t2, b2) := ⟨hw2⟩
    have hwd := wordr_any b s1 b1 (by omega) _ X2.out.hb
    rw [HS1.out, hw2] at hwd
    have HWD := Lib.hid hwd
    clear hwd hw2 r0 r1 r2 rf0 rf1 rf2 rlt
    go_wp2_with fail
    refine HWD.out.mono ?_
    rintro e w2 ⟨rfl, s2, hs2, hb2, hg2⟩
    dsimp only at hs2 hb2 ⊢
    have HS2 : Is s2.data.toList t2 := ⟨hs2⟩
    have hl2 : s2.size = t2.length := by rw [← hs2, len_eq]
    have X3 := Lib.hid (X2.out.call hg2 hb2)
    have G3 := Lib.hid (grown_trans G2.out hg2)
    clear hs2 hb2 hg2 HWD q0 q1 q2 qf0 qf1 qf2 qlt X1 X2 G1 G2
    obtain ⟨⟨q0, q1, q2⟩, ⟨qf0, qf1, qf2⟩, qlt⟩ := X3.out.facts
    have X4 := Lib.hid (X3.out.putE 1 (.int .u32 (n2 : Int)))
    have G4 := Lib.hid (grown_new (q := re) hre2 1 (.int .u32 (n2 : Int)) G3.out)
    have HEV : Is (evQ l bad) ⟨3, n2, [], t2, b2⟩ := ⟨by rw [HE2.out, HW2.out]; rfl⟩
    obtain ⟨⟨r0, r1, r2⟩, ⟨rf0, rf1, rf2⟩, rlt⟩ := X3.out.rfacts
    go_wp2
    clear q0 q1 q2 qf0 qf1 qf2 qlt r0 r1 r2 rf0 rf1 rf2 rlt
    have X9 := X4.out
    obtain ⟨MR, MB⟩ := X9.rfin (.int .i64 3) (.int .u32 (n2 : Int)) (.string ⟨#[]⟩)
    have G9 := grown_new (q := w.heap.size) (Nat.le_refl _) 2 (.string ⟨#[]⟩) (grown_new (q := w.heap.size) (Nat.le_refl _) 1 (.int .u32 (n2 : Int)) (grown_new (q := w.heap.size) (Nat.le_refl _) 0 (.int .i64 3) G4.out))
    refine bodyPost_ret (Bx.res_c Tryz.results81 rfl (ev_load MR)) rfl ?_
    rw [HEV.out]
    exact ⟨⟨#[]⟩, rfl, rfl, s2, HS2.out, MB, G9⟩
  by_cases c6 : k = 6
  · subst c6
    obtain ⟨n2, t2, b2, hw2⟩ : ∃ n2 t2 b2, wordQ t1 b1 = (n2, t2, b2) := ⟨_, _, _, rfl⟩
    have hwl := wordQ_len t1 b1
    rw [hw2] at hwl
    simp only at hwl
    have HW2 : Is (wordQ t1 b1) (n2, t2, b2) := ⟨hw2⟩
    have hwd := wordr_any b s1 b1 (by omega) _ X2.out.hb
    rw [HS1.out, hw2] at hwd
    have HWD := Lib.hid hwd
    clear hwd hw2 r0 r1 r2 rf0 rf1 rf2 rlt
    go_wp2_with fail
    refine HWD.out.mono ?_
    rintro e w2 ⟨rfl, s2, hs2, hb2, hg2⟩
    dsimp only at hs2 hb2 ⊢
    have HS2 : Is s2.data.toList t2 := ⟨hs2⟩
    have hl2 : s2.size = t2.length := by rw [← hs2, len_eq]
    have X3 := Lib.hid (X2.out.call hg2 hb2)
    have G3 := Lib.hid (grown_trans G2.out hg2)
    clear hs2 hb2 hg2 HWD q0 q1 q2 qf0 qf1 qf2 qlt X1 X2 G1 G2
    obtain ⟨⟨q0, q1, q2⟩, ⟨qf0, qf1, qf2⟩, qlt⟩ := X3.out.facts
    have X4 := Lib.hid (X3.out.putE 1 (.int .u32 (n2 : Int)))
    have G4 := Lib.hid (grown_new (q := re) hre2 1 (.int .u32 (n2 : Int)) G3.out)
    have HEV : Is (evQ l bad) ⟨6, n2, [], t2, b2⟩ := ⟨by rw [HE2.out, HW2.out]; rfl⟩
    obtain ⟨⟨r0, r1, r2⟩, ⟨rf0, rf1, rf2⟩, rlt⟩ := X3.out.rfacts
    go_wp2
    clear q0 q1 q2 qf0 qf1 qf2 qlt r0 r1 r2 rf0 rf1 rf2 rlt
    have X9 := X4.out
    obtain ⟨MR, MB⟩ := X9.rfin (.int .i64 6) (.int .u32 (n2 : Int)) (.string ⟨#[]⟩)
    have G9 := grown_new (q := w.heap.size) (Nat.le_refl _) 2 (.string ⟨#[]⟩) (grown_new (q := w.heap.size) (Nat.le_refl _) 1 (.int .u32 (n2 : Int)) (grown_new (q := w.heap.size) (Nat.le_refl _) 0 (.int .i64 6) G4.out))
    refine bodyPost_ret (Bx.res_c Tryz.results81 rfl (ev_load MR)) rfl ?_
    rw [HEV.out]
    exact ⟨⟨#[]⟩, rfl, rfl, s2, HS2.out, MB, G9⟩
  by_cases c4 : k = 4
  · subst c4
    obtain ⟨n2, t2, b2, hw2⟩ : ∃ n2 t2 b2, wordQ t1 b1 = (n2, t2, b2) := ⟨_, _, _, rfl⟩
    have hwl := wordQ_len t1 b1
    rw [hw2] at hwl
    simp only at hwl
    have HW2 : Is (wordQ t1 b1) (n2, t2, b2) := ⟨hw2⟩
    have hwd := wordr_any b s1 b1 (by omega) _ X2.out.hb
    rw [HS1.out, hw2] at hwd
    have HWD := Lib.hid hwd
    clear hwd hw2 r0 r1 r2 rf0 rf1 rf2 rlt
    go_wp2_with fail
    refine HWD.out.mono ?_
    rintro e w2 ⟨rfl, s2, hs2, hb2, hg2⟩
    dsimp only at hs2 hb2 ⊢
    have HS2 : Is s2.data.toList t2 := ⟨hs2⟩
    have hl2 : s2.size = t2.length := by rw [← hs2, len_eq]
    have X3 := Lib.hid (X2.out.call hg2 hb2)
    have G3 := Lib.hid (grown_trans G2.out hg2)
    clear hs2 hb2 hg2 HWD q0 q1 q2 qf0 qf1 qf2 qlt X1 X2 G1 G2
    obtain ⟨⟨q0, q1, q2⟩, ⟨qf0, qf1, qf2⟩, qlt⟩ := X3.out.facts
    have X4 := Lib.hid (X3.out.putE 1 (.int .u32 (n2 : Int)))
    have G4 := Lib.hid (grown_new (q := re) hre2 1 (.int .u32 (n2 : Int)) G3.out)
    obtain ⟨m4, t3, b3, hm4⟩ : ∃ m4 t3 b3, numR t2 b2 = (m4, t3, b3) := ⟨_, _, _, rfl⟩
    have hml := numR_len t2 b2
    have hmt := numR_lt t2 b2
    rw [hm4] at hml hmt
    simp only at hml hmt
    obtain ⟨d4, t4, b4, hd4⟩ : ∃ d4 t4 b4, bytesR m4 t3 b3 = (d4, t4, b4) := ⟨_, _, _, rfl⟩
    have HD4 : Is (dataR t2 b2) (d4, t4, b4) := ⟨by unfold dataR; rw [hm4]; exact hd4⟩
    have hwd := number_ref_any b s2 b2 (by omega) _ X4.out.hb
    rw [HS2.out, hm4] at hwd
    have HWD := Lib.hid hwd
    have HBD := Lib.hid hd4
    clear hwd hm4 hd4
    go_wp2_with fail
    refine HWD.out.mono ?_
    rintro e w5 ⟨rfl, s5, hs5, hb5, hg5⟩
    dsimp only at hs5 hb5 ⊢
    have HS5 : Is s5.data.toList t3 := ⟨hs5⟩
    have hl5 : s5.size = t3.length := by rw [← hs5, len_eq]
    have X5 := Lib.hid (X4.out.call hg5 hb5)
    have G5 := Lib.hid (grown_trans G4.out hg5)
    clear hs5 hb5 hg5 HWD q0 q1 q2 qf0 qf1 qf2 qlt
    have hby := bytes_ref_any b s5 b3 (m4 : Int) (by omega) (by omega) (by omega) _ X5.out.hb
    rw [HS5.out, Int.toNat_natCast, HBD.out] at hby
    have HBY := Lib.hid hby
    clear hby
    go_wp2_with fail
    refine HBY.out.mono ?_
    rintro e w6 ⟨ds, rfl, hds, s6, hs6, hb6, hg6⟩
    dsimp only at hds hs6 hb6 ⊢
    have HDS : Is ds.data.toList d4 := ⟨hds⟩
    have HS6 : Is s6.data.toList t4 := ⟨hs6⟩
    have X6 := Lib.hid (X5.out.call hg6 hb6)
    have G6 := Lib.hid (grown_trans G5.out hg6)
    clear hds hs6 hb6 hg6 HBY X5 G5
    obtain ⟨⟨q0, q1, q2⟩, ⟨qf0, qf1, qf2⟩, qlt⟩ := X6.out.facts
    obtain ⟨⟨r0, r1, r2⟩, ⟨rf0, rf1, rf2⟩, rlt⟩ := X6.out.rfacts
    have HEV : Is (evQ l bad) ⟨4, n2, d4, t4, b4⟩ := ⟨by rw [HE2.out, HW2.out]; simp only; rw [HD4.out]; rfl⟩
    go_wp2
    clear q0 q1 q2 qf0 qf1 qf2 qlt r0 r1 r2 rf0 rf1 rf2 rlt
    have X9 := X6.out.putE 2 (.string ds)
    obtain ⟨MR, MB⟩ := X9.rfin (.int .i64 4) (.int .u32 (n2 : Int)) (.string ds)
    have G9 := grown_new (q := w.heap.size) (Nat.le_refl _) 2 (.string ds) (grown_new (q := w.heap.size) (Nat.le_refl _) 1 (.int .u32 (n2 : Int)) (grown_new (q := w.heap.size) (Nat.le_refl _) 0 (.int .i64 4) (grown_new (q := re) hre2 2 (.string ds) G6.out)))
    refine bodyPost_ret (Bx.res_c Tryz.results81 rfl (ev_load MR)) rfl ?_
    rw [HEV.out]
    exact ⟨ds, rfl, HDS.out, s6, HS6.out, MB, G9⟩
  by_cases c5 : k = 5
  · subst c5
    clear r0 r1 r2 rf0 rf1 rf2 rlt
    obtain ⟨m4, t3, b3, hm4⟩ : ∃ m4 t3 b3, numR t1 b1 = (m4, t3, b3) := ⟨_, _, _, rfl⟩
    have hml := numR_len t1 b1
    have hmt := numR_lt t1 b1
    rw [hm4] at hml hmt
    simp only at hml hmt
    obtain ⟨d4, t4, b4, hd4⟩ : ∃ d4 t4 b4, bytesR m4 t3 b3 = (d4, t4, b4) := ⟨_, _, _, rfl⟩
    have HD4 : Is (dataR t1 b1) (d4, t4, b4) := ⟨by unfold dataR; rw [hm4]; exact hd4⟩
    have hwd := number_ref_any b s1 b1 (by omega) _ X2.out.hb
    rw [HS1.out, hm4] at hwd
    have HWD := Lib.hid hwd
    have HBD := Lib.hid hd4
    clear hwd hm4 hd4
    go_wp2_with fail
    refine HWD.out.mono ?_
    rintro e w5 ⟨rfl, s5, hs5, hb5, hg5⟩
    dsimp only at hs5 hb5 ⊢
    have HS5 : Is s5.data.toList t3 := ⟨hs5⟩
    have hl5 : s5.size = t3.length := by rw [← hs5, len_eq]
    have X5 := Lib.hid (X2.out.call hg5 hb5)
    have G5 := Lib.hid (grown_trans G2.out hg5)
    clear hs5 hb5 hg5 HWD q0 q1 q2 qf0 qf1 qf2 qlt
    have hby := bytes_ref_any b s5 b3 (m4 : Int) (by omega) (by omega) (by omega) _ X5.out.hb
    rw [HS5.out, Int.toNat_natCast, HBD.out] at hby
    have HBY := Lib.hid hby
    clear hby
    go_wp2_with fail
    refine HBY.out.mono ?_
    rintro e w6 ⟨ds, rfl, hds, s6, hs6, hb6, hg6⟩
    dsimp only at hds hs6 hb6 ⊢
    have HDS : Is ds.data.toList d4 := ⟨hds⟩
    have HS6 : Is s6.data.toList t4 := ⟨hs6⟩
    have X6 := Lib.hid (X5.out.call hg6 hb6)
    have G6 := Lib.hid (grown_trans G5.out hg6)
    clear hds hs6 hb6 hg6 HBY X5 G5
    obtain ⟨⟨q0, q1, q2⟩, ⟨qf0, qf1, qf2⟩, qlt⟩ := X6.out.facts
    obtain ⟨⟨r0, r1, r2⟩, ⟨rf0, rf1, rf2⟩, rlt⟩ := X6.out.rfacts
    have HEV : Is (evQ l bad) ⟨5, 0, d4, t4, b4⟩ := ⟨by rw [HE2.out]; rw [HD4.out]; rfl⟩
    go_wp2
    clear q0 q1 q2 qf0 qf1 qf2 qlt r0 r1 r2 rf0 rf1 rf2 rlt
    have X9 := X6.out.putE 2 (.string ds)
    obtain ⟨MR, MB⟩ := X9.rfin (.int .i64 5) (.int .u32 0) (.string ds)
    have G9 := grown_new (q := w.heap.size) (Nat.le_refl _) 2 (.string ds) (grown_new (q := w.heap.size) (Nat.le_refl _) 1 (.int .u32 0) (grown_new (q := w.heap.size) (Nat.le_refl _) 0 (.int .i64 5) (grown_new (q := re) hre2 2 (.string ds) G6.out)))
    refine bodyPost_ret (Bx.res_c Tryz.results81 rfl (ev_load MR)) rfl ?_
    rw [HEV.out]
    exact ⟨ds, rfl, HDS.out, s6, HS6.out, MB, G9⟩
  have HEV : Is (evQ l bad) ⟨k, 0, [], t1, b1⟩ := ⟨by rw [HE2.out, if_neg (by omega), if_neg c4, if_neg c5]⟩
  have i1 : ((k : Int) == 1) = false := by simp; omega
  have i3 : ((k : Int) == 3) = false := by simp; omega
  have i6 : ((k : Int) == 6) = false := by simp; omega
  have i4 : ((k : Int) == 4) = false := by simp; omega
  have i5 : ((k : Int) == 5) = false := by simp; omega
  have kw : IntKind.i64.wrap (k : Int) = (k : Int) := IntWalk.i64_in _ (by omega)
  go_wp2
  clear q0 q1 q2 qf0 qf1 qf2 qlt r0 r1 r2 rf0 rf1 rf2 rlt
  have X9 := X2.out
  obtain ⟨MR, MB⟩ := X9.rfin (.int .i64 (k : Int)) (.int .u32 0) (.string ⟨#[]⟩)
  have G9 := grown_new (q := w.heap.size) (Nat.le_refl _) 2 (.string ⟨#[]⟩) (grown_new (q := w.heap.size) (Nat.le_refl _) 1 (.int .u32 0) (grown_new (q := w.heap.size) (Nat.le_refl _) 0 (.int .i64 (k : Int)) G2.out))
  refine bodyPost_ret (Bx.res_c Tryz.results81 rfl (ev_load MR)) rfl ?_
  rw [HEV.out]
  exact ⟨⟨#[]⟩, rfl, rfl, s1, HS1.out, MB, G9⟩
end Enc
end Go.Proofs.YthpjbffhdaaibaaGreat

set_option linter.unusedVariables false
set_option linter.unusedSimpArgs false
set_option maxRecDepth 100000
namespace Go.Proofs.YthpjbffhdaaibaaGreat
open Go.RowKit Go.BigFrame Go.Sort Go.Lib
namespace Enc
open Lgc Lg Strs
theorem u_any (x : Nat) (hx : (x : Int) ≤ 18446744073709551615) (w : World) : Calls Tryz.prog 100 #[.int .u64 (x : Int)] w (MakesS (Uv.put x) w) := by
  have HP := Lib.hid (put_ref_any x hx w)
  go_enter Tryz.func100, Tryz.ntmps100
  go_wp2_with (go_at_call 40; refine HP.out.mono ?_; rintro e w1 ⟨rfl, h1⟩)
  go_ret
  exact ⟨rfl, h1⟩
set_option maxHeartbeats 2000000 in
theorem putr_any (k n : Nat) (d : ByteArray) (hk : 1 ≤ k) (hk6 : k ≤ 6) (hn : n ≤ 4294967295) (hd : d.size ≤ 128) (w : World) :
    Calls Tryz.prog 73 #[.agg #[.int .i64 (k : Int), .int .u32 (n : Int), .string d]] w (MakesS (encE k n d.data.toList) w) := by
  have HB := Lib.hid fun w' (h : Held (w.alloc (.cells #[.int .i64 (k : Int), .int .u32 (n : Int), .string d] 68)) w') => And.intro (h.cell (p := ⟨w.heap.size, 0, none⟩) (v := .int .i64 (k : Int)) (by simp)) (And.intro (h.cell (p := ⟨w.heap.size, 1, none⟩) (v := .int .u32 (n : Int)) (by simp)) (h.cell (p := ⟨w.heap.size, 2, none⟩) (v := .string d) (by simp)))
  have HA := Lib.hid ((Held.refl w).alloc (.cells #[.int .i64 (k : Int), .int .u32 (n : Int), .string d] 68))
  have HU := Lib.hid (fun w => u_any k (by omega) w)
  have HN := Lib.hid (fun w => u_any n (by omega) w)
  have HD := Lib.hid (fun w => u_any d.size (by omega) w)
  have hl1 := Uv.put_len k (by omega)
  have hl2 := Uv.put_len n (by omega)
  have hl3 := Uv.put_len d.size (by omega)
  have hdl : d.data.toList.length = d.size := len_eq d
  have E1 : Hid (k = 1 ∨ k = 3 ∨ k = 6 → encE k n d.data.toList = Uv.put k ++ Uv.put n) := fun h => encE_1 (k := (k : Int)) (n := (n : Int)) (by omega)
  have E4 : Hid (k = 4 → encE k n d.data.toList = Uv.put k ++ Uv.put n ++ (Uv.put d.size ++ d.data.toList)) := fun h => by rw [← hdl, List.append_assoc]; exact encE_4 (k := (k : Int)) (n := (n : Int)) (by omega)
  have E5 : Hid (k = 5 → encE k n d.data.toList = Uv.put k ++ (Uv.put d.size ++ d.data.toList)) := fun h => by rw [← hdl]; exact encE_5 (k := (k : Int)) (n := (n : Int)) (by omega)
  have E2 : Hid (k = 2 → encE k n d.data.toList = Uv.put k) := fun h => encE_2 (k := (k : Int)) (n := (n : Int)) (by omega)
  generalize Uv.put k = a at hl1 HU E1 E2 E4 E5
  generalize Uv.put n = b at hl2 HN E1 E4
  generalize Uv.put d.size = c at hl3 HD E4 E5
  generalize encE k n d.data.toList = r at E1 E2 E4 E5
  unfold MakesS at HU HN HD
  clear hdl
  go_enter Tryz.func73, Tryz.ntmps73
  go_wp2_with fail
  refine (HU.out _).mono ?_
  rintro e w1 ⟨rfl, h1⟩
  obtain ⟨c0, c1, c2⟩ := HB.out _ h1
  have W1 := Lib.hid (HA.out.step h1)
  have H1 := Lib.hid h1
  clear h1 HU
  have fin : Hid (∀ (s : ByteArray) (w' : World), s.data.toList = r → Held w w' → MakesS r w (.returned (.string s)) w') := fun s w' hs hw => ⟨ret_str hs, hw⟩
  have hkk : k = 1 ∨ k = 2 ∨ k = 3 ∨ k = 4 ∨ k = 5 ∨ k = 6 := by omega
  rcases hkk with rfl | rfl | rfl | rfl | rfl | rfl
  · have he := E1.out (by omega)
    clear HB H1 E1 E2 E4 E5 HD
    have HE := Lib.hid he
    clear he
    go_wp2_with fail
    refine (HN.out _).mono ?_
    rintro e w2 ⟨rfl, h2⟩
    go_wp2
    go_ret
    exact fin.out _ _ (by rw [HE.out]; simp) (W1.out.step h2)
  · have he := E2.out rfl
    clear HB H1 E1 E2 E4 E5 HD HN
    have HE := Lib.hid he
    clear he
    go_wp2
    go_ret
    exact fin.out _ _ (by rw [HE.out]) W1.out
  · have he := E1.out (by omega)
    clear HB H1 E1 E2 E4 E5 HD
    have HE := Lib.hid he
    clear he
    go_wp2_with fail
    refine (HN.out _).mono ?_
    rintro e w2 ⟨rfl, h2⟩
    go_wp2
    go_ret
    exact fin.out _ _ (by rw [HE.out]; simp) (W1.out.step h2)
  · have he := E4.out rfl
    have HE := Lib.hid he
    have k1 := cell_regrown c1
    have k2 := cell_regrown c2
    have cA := Lib.hid fun dd os => Calls.regrown_of (d := dd) (os := os) (HN.out (grow (redrawn w1 dd) os))
    have cB := Lib.hid fun dd os => Calls.regrown_of (d := dd) (os := os) (HD.out (grow (redrawn w1 dd) os))
    clear he HB H1 E1 E2 E4 E5 c1 c2 HN HD
    go_wp2
    refine wp_region_quiet_below (by kernel_rfl) (by kernel_rfl) ?_
    repeat (go_big_quiet_step (first | (go_at_call 100; with_reducible exact cA.out _ _) | (go_at_call 100; with_reducible exact cB.out _ _)))
    refine wpQuiet_nil ?_
    intro w5 hw'
    obtain ⟨⟨dq, osq⟩, hw''⟩ := hw'
    have h5 : Held w1 w5 := by rw [hw'']; exact below_regrown w1 dq osq
    clear hw'' k1 k2 cA cB c0
    go_wp2
    go_ret
    exact fin.out _ _ (by rw [HE.out]; simp) (W1.out.step h5)
  · have he := E5.out rfl
    have HE := Lib.hid he
    have k1 := cell_regrown c1
    have k2 := cell_regrown c2
    have cA := Lib.hid fun dd os => Calls.regrown_of (d := dd) (os := os) (HN.out (grow (redrawn w1 dd) os))
    have cB := Lib.hid fun dd os => Calls.regrown_of (d := dd) (os := os) (HD.out (grow (redrawn w1 dd) os))
    clear he HB H1 E1 E2 E4 E5 c1 c2 HN HD
    go_wp2
    refine wp_region_quiet_below (by kernel_rfl) (by kernel_rfl) ?_
    repeat (go_big_quiet_step (first | (go_at_call 100; with_reducible exact cA.out _ _) | (go_at_call 100; with_reducible exact cB.out _ _)))
    refine wpQuiet_nil ?_
    intro w5 hw'
    obtain ⟨⟨dq, osq⟩, hw''⟩ := hw'
    have h5 : Held w1 w5 := by rw [hw'']; exact below_regrown w1 dq osq
    clear hw'' k1 k2 cA cB c0
    go_wp2
    go_ret
    exact fin.out _ _ (by rw [HE.out]; simp) (W1.out.step h5)
  · have he := E1.out (by omega)
    clear HB H1 E1 E2 E4 E5 HD
    have HE := Lib.hid he
    clear he
    go_wp2_with fail
    refine (HN.out _).mono ?_
    rintro e w2 ⟨rfl, h2⟩
    go_wp2
    go_ret
    exact fin.out _ _ (by rw [HE.out]; simp) (W1.out.step h2)
set_option maxHeartbeats 2000000 in
theorem ordr_any (A : Option Addr) (n cap : Nat) (L : List Ent) (w : World) (h : Sl 4 entC w A n L) (hn : n ≤ 1000000) (hx : ∀ x ∈ L, EntOK x) :
    Calls Tryz.prog 72 #[.slice A n cap] w fun e w' => e = .returned (.bool (ord L)) ∧ Held w w' := by
  have HS := Lib.hid h
  have HX := Lib.hid hx
  have HL := Lib.hid h.1
  clear h hx
  go_enter Tryz.func72, Tryz.ntmps72
  go_wp2
  go_loopw [3] (fun i wr => ∃ q i1 : Nat, i = .int .i64 (i1 : Int) ∧ i1 = q + 1 ∧ (q = 0 ∨ q + 1 ≤ n) ∧ ordTo L q = true ∧ Held w wr) (fun i _ => n - (RowKit.intOf i).toNat)
  case atStart => exact ⟨0, 1, rfl, rfl, .inl rfl, rfl, Held.refl _⟩
  case round =>
    obtain ⟨q, i1, rfl, hi, hq, ho, hh⟩ := hrel
    have HO := Lib.hid ho
    have HH := Lib.hid hh
    have HI : Is i1 (q + 1) := ⟨hi⟩
    clear ho
    by_cases hlt : q + 1 < n
    · obtain ⟨b, off, x, rfl, hb, hx1, hc1⟩ := HS.out.at_ hh (k := q) (by omega)
      obtain ⟨b', off', y, he, _, hy1, hc2⟩ := HS.out.at_ hh (k := i1) (by omega)
      injection he with he
      injection he with hb1 ho1
      subst hb1 ho1
      have x0 := hc1 0 _ rfl
      have x1 := hc1 1 _ rfl
      have y0 := hc2 0 _ rfl
      rw [Nat.add_zero] at x0 y0
      clear hc1 hc2
      have z1 : (0 : Int) ≤ i1 := by omega
      have z2 : (i1 : Int) < n := by omega
      have z3 : (0 : Int) ≤ q := by omega
      have z4 : (q : Int) < n := by omega
      have z5 : IntKind.i64.wrap ((i1 : Int) - 1) = (q : Int) := by rw [IntWalk.i64_in _ (by omega)]; omega
      have z6 : (i1 : Int) - 1 = q := by omega
      have hxe : L[q]'(by have := HL.out; omega) = x := by rw [List.getElem?_eq_getElem (by have := HL.out; omega)] at hx1; injection hx1
      have hye : L[q + 1]'(by have := HL.out; omega) = y := by rw [hi, List.getElem?_eq_getElem (by have := HL.out; omega)] at hy1; injection hy1
      have hn1 := ordTo_next (L := L) (k := q) (by have := HL.out; omega)
      rw [hxe, hye, HO.out] at hn1
      have HNX := Lib.hid hn1
      have k0 := cell_regrown x0
      have k1 := cell_regrown x1
      have k2 := cell_regrown y0
      clear hx1 hy1 hxe hye hn1 hq hb hh hi
      rcases Nat.lt_trichotomy y.t x.t with ht | ht | ht
      · have hno : Hid (ord L = false) := ordTo_no (j := q + 1) (by rw [HNX.out]; simp [adj, ht]) (by have := HL.out; omega)
        have t1 : decide ((y.t : Int) < x.t) = true := decide_eq_true (by omega)
        have t2 : decide (y.t < x.t) = true := decide_eq_true ht
        clear x0 x1 y0
        go_upto_region 4 with fail
        refine wp_region_quiet_below (by kernel_rfl) (by kernel_rfl) ?_
        repeat (go_big_quiet_step (fail))
        refine wpQuiet_nil ?_
        intro _ hw'
        obtain ⟨⟨dq, osq⟩, hw''⟩ := hw'
        subst hw''
        go_wp2
        go_ret
        exact ⟨by rw [hno.out]; rfl, HH.out.step (below_regrown wr dq osq)⟩
      · have t1 : ((y.t : Int) == x.t) = true := by simp [ht]
        have t2 : decide (y.t < x.t) = false := by simp; omega
        have t3 : decide ((y.t : Int) < x.t) = false := by simp; omega
        by_cases hk : x.k = 1
        · have hno : Hid (ord L = false) := ordTo_no (j := q + 1) (by rw [HNX.out]; simp [adj, ht, hk]) (by have := HL.out; omega)
          have t4 : (x.k == 1) = true := by simp [hk]
          clear ht hk x0 x1 y0
          go_upto_region 4 with fail
          refine wp_region_quiet_below (by kernel_rfl) (by kernel_rfl) ?_
          repeat (go_big_quiet_step (fail))
          refine wpQuiet_nil ?_
          intro _ hw'
          obtain ⟨⟨dq, osq⟩, hw''⟩ := hw'
          subst hw''
          go_wp2
          go_ret
          exact ⟨by rw [hno.out]; rfl, HH.out.step (below_regrown wr dq osq)⟩
        · have hyes : Hid (ordTo L (q + 1) = true) := show _ = _ by rw [HNX.out]; simp [adj, ht, hk]
          have t4 : (x.k == 1) = false := by simp [hk]
          clear ht hk x0 x1 y0
          go_upto_region 4 with fail
          refine wp_region_quiet_below (by kernel_rfl) (by kernel_rfl) ?_
          repeat (go_big_quiet_step (fail))
          refine wpQuiet_nil ?_
          intro _ hw'
          obtain ⟨⟨dq, osq⟩, hw''⟩ := hw'
          subst hw''
          go_wp2
          go_roundw
          case rel => exact ⟨q + 1, i1 + 1, by go_num, by have := HI.out; omega, .inr (by have := HI.out; omega), hyes.out, HH.out.step (below_regrown wr dq osq)⟩
          case measure => (simp [RowKit.intOf]) <;> omega
      · have hyes : Hid (ordTo L (q + 1) = true) := show _ = _ by rw [HNX.out]; simp [adj]; omega
        have t1 : ((y.t : Int) == x.t) = false := by simp; omega
        have t2 : decide (y.t < x.t) = false := by simp; omega
        have t3 : decide ((y.t : Int) < x.t) = false := by simp; omega
        clear ht x0 x1 y0
        go_upto_region 4 with fail
        refine wp_region_quiet_below (by kernel_rfl) (by kernel_rfl) ?_
        repeat (go_big_quiet_step (fail))
        refine wpQuiet_nil ?_
        intro _ hw'
        obtain ⟨⟨dq, osq⟩, hw''⟩ := hw'
        subst hw''
        go_wp2
        go_roundw
        case rel => exact ⟨q + 1, i1 + 1, by go_num, by have := HI.out; omega, .inr (by have := HI.out; omega), hyes.out, HH.out.step (below_regrown wr dq osq)⟩
        case measure => (simp [RowKit.intOf]) <;> omega
    · have hyes : Hid (ord L = true) := show _ = _ by
        unfold ord
        rw [HL.out, show n - 1 = q by omega]; exact HO.out
      have z2 : ¬ (i1 : Int) < n := by omega
      clear hh
      go_wp2
      go_ret
      exact ⟨by rw [hyes.out]; rfl, HH.out⟩
end Enc
end Go.Proofs.YthpjbffhdaaibaaGreat

set_option linter.unusedVariables false
set_option maxRecDepth 100000
namespace Go.Proofs.YthpjbffhdaaibaaGreat
open Go.RowKit Go.Lib
namespace ByB
theorem block_setCells (b : Nat) : ∀ (vs : List Value) (o : Nat) (w : World) (k : Nat), k ≠ b → (w.setCells b o vs).heap[k]? = w.heap[k]?
  | [], _, _, _, _ => rfl
  | v :: r, o, w, k, hk => by
    unfold World.setCells
    rw [block_setCells b r (o + 1) _ k hk]
    simp only [World.setCell]
    rw [Array.getElem?_modify, if_neg (fun e => hk e.symm)]
theorem size_setCells (b : Nat) : ∀ (vs : List Value) (o : Nat) (w : World), (w.setCells b o vs).heap.size = w.heap.size ∧ (w.setCells b o vs).os = w.os ∧ (w.setCells b o vs).tape = w.tape ∧ (w.setCells b o vs).output = w.output
  | [], _, _ => ⟨rfl, rfl, rfl, rfl⟩
  | v :: r, o, w => by
    unfold World.setCells
    obtain ⟨h1, h2, h3, h4⟩ := size_setCells b r (o + 1) (w.setCell ⟨b, o, none⟩ v)
    refine ⟨?_, h2, h3, h4⟩
    rw [h1]; simp [World.setCell]
theorem some_setCells (b : Nat) : ∀ (vs : List Value) (o : Nat) (w : World) (x : Addr), (w.cell? x).isSome = true → ((w.setCells b o vs).cell? x).isSome = true
  | [], _, _, _, h => h
  | v :: r, o, w, x, h => by
    unfold World.setCells
    refine some_setCells b r (o + 1) _ x ?_
    by_cases e : x = ⟨b, o, none⟩
    · subst e
      obtain ⟨u, hu⟩ := Option.isSome_iff_exists.1 h
      rw [World.cell?_setCell_same (h := hu)]; rfl
    · rw [World.cell?_setCell_other (h := fun e' => e (by first | exact e' | exact e'.symm))]; exact h
/-- Bytes in a block of the call's own. -/
structure BOwn (base : Nat) (w : World) (v : Value) (l : List UInt8) : Prop where
  out : ∃ g cap, v = .slice (some ⟨g, 0, none⟩) l.length cap ∧ base ≤ g ∧ g < w.heap.size ∧ l.length ≤ cap ∧ cap ≤ maxLen ∧ (∀ j (h : j < l.length), w.cell? ⟨g, j, none⟩ = some (.int .u8 (l[j].toNat : Int))) ∧ ∀ j, j < cap → (w.cell? ⟨g, j, none⟩).isSome = true ∧ w.frozen? ⟨g, j, none⟩ = false
theorem BOwn.held {base : Nat} {w w' : World} {v : Value} {l : List UInt8} (h : BOwn base w v l) (k : Held w w') : BOwn base w' v l := by
  obtain ⟨g, cap, h1, h2, h3, h4, h5, h6, h7⟩ := h.out
  have hb := k.block g h3
  exact ⟨g, cap, h1, h2, Nat.lt_of_lt_of_le h3 k.le, h4, h5, fun j hj => by rw [World.cell?_of_block hb]; exact h6 j hj, fun j hj => by rw [World.cell?_of_block hb, World.frozen?_of_block hb]; exact h7 j hj⟩
theorem addr0 (g j : Nat) : (⟨g, 0, none⟩ : Addr).add j = ⟨g, j, none⟩ := by unfold Addr.add; split <;> simp_all
/-- '[]byte(s)'. -/
theorem of_string (s : ByteArray) (w : World) (hs : s.size ≤ 1000000000000) : ∃ v w', (convert 9 63 (.string s)).run Tryz.prog w = .ok v w' ∧ BOwn w.heap.size w' v s.data.toList ∧ Held w w' := by
  have hr := run_bytes_of_string (P := Tryz.prog) w 9 63 5 s Tryz.underlying9 Tryz.underlying63 Tryz.underlying5
  have hge := grownCap_ge w s.size 0 5
  have hle : grownCap w s.size 0 5 ≤ maxLen := grownCap_le_maxLen _ _ _ _ (by unfold maxLen; omega)
  generalize grownCap w s.size 0 5 = cap at hr hge hle
  have hsz : (bytesRow s cap).size = cap := by unfold bytesRow; simp; omega
  have hl : s.data.toList.length = s.size := by simp
  refine ⟨_, _, hr, ⟨w.heap.size, cap, by rw [hl], Nat.le_refl _, by simp, by rw [hl]; exact hge, hle, fun j hj => ?_, fun j hj => ?_⟩, (Held.refl w).drew.alloc _⟩
  · rw [show (w.drew.alloc (.cells (bytesRow s cap) 5 ((bytesRow s cap).size, (bytesRow s cap).size + 1))).cell? ⟨w.heap.size, j, none⟩ = (bytesRow s cap)[j]? from World.cell?_alloc_mark (w := w.drew) ..]
    have := bytesRow_at s cap j (by rw [hl] at hj; exact hj)
    rw [this]; rfl
  · refine ⟨?_, ?_⟩
    · rw [show (w.drew.alloc (.cells (bytesRow s cap) 5 ((bytesRow s cap).size, (bytesRow s cap).size + 1))).cell? ⟨w.heap.size, j, none⟩ = (bytesRow s cap)[j]? from World.cell?_alloc_mark (w := w.drew) ..]
      rw [Array.getElem?_eq_getElem (by rw [hsz]; exact hj)]; rfl
    · rw [show (w.drew.alloc (.cells (bytesRow s cap) 5 ((bytesRow s cap).size, (bytesRow s cap).size + 1))).frozen? ⟨w.heap.size, j, none⟩ = _ from World.frozen?_alloc_mark (w := w.drew) ..]
      simp; omega
/-- The string of the bytes. -/
theorem back {base : Nat} {w : World} {v : Value} {l : List UInt8} (h : BOwn base w v l) : (convert 63 9 v).run Tryz.prog w = .ok (.string ⟨l.toArray⟩) w := by
  obtain ⟨g, cap, rfl, _, _, _, _, h6, _⟩ := h.out
  exact Strs.bytes_back w ⟨g, 0, none⟩ cap l fun j hj => by rw [addr0]; exact h6 j hj
theorem app_run {base : Nat} {w : World} {v : Value} {l : List UInt8} (h : BOwn base w v l) (hb : base ≤ w.heap.size) (t : ByteArray) (ht : l.length + t.size ≤ 1000000000000) (ty : TypeId) :
    ∃ v' w', (Builtin.append_ #[63, 9] ty #[v, .string t]).run Tryz.prog w = .ok v' w' ∧ BOwn base w' v' (l ++ t.data.toList) ∧ (∀ W, Held W w → W.heap.size ≤ base → Held W w') := by
  obtain ⟨g, cap, rfl, h2, h3, h4, h5, h6, h7⟩ := h.out
  obtain ⟨i0, hi, hz0, hz1, hz2⟩ := info_parts Strs.Tryzinfo_u8
  have hl : t.data.toList.length = t.size := by simp
  have hsl : (strCells t).length = t.size := strCells_length t
  have hsat : ∀ j (hj : j < t.size), (strCells t)[j]? = some (.int .u8 (t.data.toList[j]'(by omega)).toNat) := fun j hj => by
    unfold strCells; rw [List.getElem?_map, List.getElem?_eq_getElem (by omega)]; rfl
  by_cases hroom : l.length + t.size ≤ cap
  · have hf := run_firstCells_string (P := Tryz.prog) w 1 t
    have hst := run_storeCells_cells (P := Tryz.prog) g l.length (strCells t) 0 w (fun j hj => by rw [hsl] at hj; exact (h7 _ (by omega)).1) (fun j hj => by rw [hsl] at hj; exact (h7 _ (by omega)).2) (strCells_oneCell t)
    simp only [Nat.add_zero] at hst
    refine ⟨.slice (some ⟨g, 0, none⟩) (l.length + t.size) cap, w.setCells g l.length (strCells t), ?_, ⟨g, cap, by rw [List.length_append, hl], h2, by rw [(size_setCells g _ _ w).1]; exact h3, by rw [List.length_append, hl]; exact hroom, h5, fun j hj => ?_, fun j hj => ⟨some_setCells g _ _ w _ (h7 j hj).1, by rw [World.frozen?_setCells]; exact (h7 j hj).2⟩⟩, fun W hW hWb => ?_⟩
    · simp [Builtin.append_, run_underlying Tryz.underlying63, run_underlying Tryz.underlying9, sizeOf, typeInfo, hi, hz1, Builtin.lenOf, hroom, hf, Addr.add_lit, hst]
    · by_cases hjl : j < l.length
      · rw [World.cell?_setCells_out g _ _ w _ (fun _ _ => .inl (by simp only; exact hjl)), List.getElem_append_left hjl]
        exact h6 j hjl
      · have hjt : j - l.length < t.size := by rw [List.length_append, hl] at hj; omega
        have h8 := World.cell?_setCells_in g (strCells t) l.length w (fun k hk => by rw [hsl] at hk; exact (h7 _ (by omega)).1) (j - l.length) (by rw [hsl]; exact hjt)
        rw [show l.length + (j - l.length) = j by omega] at h8
        rw [h8, List.getElem_append_right (by omega)]
        have h9 := hsat (j - l.length) hjt
        rw [List.getElem?_eq_getElem (by rw [hsl]; exact hjt)] at h9
        exact h9
    · obtain ⟨z1, z2, z3, z4⟩ := size_setCells g (strCells t) l.length w
      exact ⟨z2.trans hW.os, z3.trans hW.tape, z4.trans hW.output, by rw [z1]; exact hW.size, fun k hk => by rw [block_setCells g _ _ w k (by omega)]; exact hW.block k hk⟩
  · have hr := run_append_grow_string (P := Tryz.prog) w 63 9 ty 5 i0 (.int .u8 0) Tryz.underlying63 Tryz.underlying9 hi hz0 ⟨g, 0, none⟩ l.length cap (Strs.by8 l) (by rw [hz1]; simp [Strs.by8]) (fun j u hj => by obtain ⟨hk, rfl⟩ := Strs.by8_at hj; rw [addr0]; exact h6 j hk) t (by omega) (by omega) (by rw [hz2]; exact growslice_fits (by omega) (by omega))
    have hge := grownCap_ge w (l.length + t.size) cap 5
    have hle : grownCap w (l.length + t.size) cap 5 ≤ maxLen := grownCap_le_maxLen _ _ _ _ (by unfold maxLen; omega)
    generalize grownCap w (l.length + t.size) cap 5 = c2 at hr hge hle
    have hz : (Value.int IntKind.u8 0).cells.size = 1 := rfl
    have hC : ∀ j, j < c2 → ∃ u, ((Strs.by8 l).toArray ++ (strCells t).toArray ++ Builtin.zeroCells (Value.int IntKind.u8 0).cells (c2 - (l.length + t.size)))[j]? = some u := fun j hj => by
      exact ⟨_, Array.getElem?_eq_getElem (by simp [Strs.by8, hsl, Builtin.zeroCells, hz]; omega)⟩
    refine ⟨_, _, hr, ⟨w.heap.size, c2, by rw [List.length_append, hl], hb, by simp, by rw [List.length_append, hl]; exact hge, hle, fun j hj => ?_, fun j hj => ?_⟩, fun W hW hWb => hW.drew.alloc _⟩
    · rw [List.length_append, hl] at hj
      have hn := heap_alloc_new w.drew (.cells ((Strs.by8 l).toArray ++ (strCells t).toArray ++ Builtin.zeroCells (Value.int IntKind.u8 0).cells (c2 - (l.length + t.size))) 5)
      have hn' : (w.drew.alloc (.cells ((Strs.by8 l).toArray ++ (strCells t).toArray ++ Builtin.zeroCells (Value.int IntKind.u8 0).cells (c2 - (l.length + t.size))) 5)).heap[w.heap.size]? = some _ := hn
      simp only [World.cell?, hn']
      by_cases hjl : j < l.length
      · rw [Array.getElem?_append_left (by simp [Strs.by8]; omega), Array.getElem?_append_left (by simp [Strs.by8]; omega), List.getElem_append_left hjl]
        simp [Strs.by8, hjl]
      · rw [Array.getElem?_append_left (by simp [Strs.by8, hsl]; omega), Array.getElem?_append_right (by simp [Strs.by8]; omega), List.getElem_append_right (by omega)]
        have h9 := hsat (j - l.length) (by omega)
        simpa [Strs.by8] using h9
    · obtain ⟨u, hu⟩ := hC j hj
      have hn' : (w.drew.alloc (.cells ((Strs.by8 l).toArray ++ (strCells t).toArray ++ Builtin.zeroCells (Value.int IntKind.u8 0).cells (c2 - (l.length + t.size))) 5)).heap[w.heap.size]? = some _ := heap_alloc_new w.drew _
      simp only [World.cell?, World.frozen?, hn']
      exact ⟨by rw [hu]; rfl, by simp⟩
end ByB
end Go.Proofs.YthpjbffhdaaibaaGreat

set_option linter.unusedVariables false
set_option linter.unusedSimpArgs false
set_option maxRecDepth 100000
namespace Go.Proofs.YthpjbffhdaaibaaGreat
open Go.RowKit Go.BigFrame Go.Sort Go.Lib
namespace Enc
open Lgc Lg Strs
set_option maxHeartbeats 4000000 in
theorem encoder_any (A : Option Addr) (n cap : Nat) (L : List Ent) (f : Nat) (w : World) (h : Sl 4 entC w A n L) (hn : n ≤ 1000000) (hx : ∀ x ∈ L, EntOK x) (hf : (f : Int) ≤ 18446744073709551615) :
    Calls Tryz.prog 39 #[.slice A n cap, .int .u64 f] w (EncTo (encode L f) w) := by
  have HS := Lib.hid h
  have HX := Lib.hid hx
  have HL := Lib.hid h.1
  have hl := h.1
  clear h hx
  by_cases h4 : (400 : Int) < n
  · have HE := Lib.hid (enc_long (f := f) (L := L) (by omega))
    clear hl
    go_enter Tryz.func39, Tryz.ntmps39
    go_wp2
    go_ret2
    exact EncTo.mk HE.out (Held.refl _)
  · have HN : Hid (¬ 400 < L.length) := by show ¬ _; omega
    clear hl
    go_enter Tryz.func39, Tryz.ntmps39
    go_wp2
    go_loopw [6] (fun i wr => ∃ k : Nat, i = .int .i64 k ∧ k ≤ n ∧ (L.take k).all okX = true ∧ Held w wr) (fun i _ => n - (RowKit.intOf i).toNat)
    case atStart => exact ⟨0, rfl, Nat.zero_le _, rfl, Held.refl _⟩
    case round =>
      obtain ⟨k, rfl, hk, ho, hh⟩ := hrel
      have HO := Lib.hid ho
      have HH := Lib.hid hh
      clear ho
      by_cases hlt : (k : Int) < n
      · obtain ⟨b, off, x, rfl, hb, hx1, hc1⟩ := HS.out.at_ hh (k := k) (by omega)
        have x1 := hc1 1 _ rfl
        have x2 := hc1 2 _ rfl
        have x3 := hc1 3 _ rfl
        have hkL : k < L.length := by have := HL.out; omega
        have hxe : L[k] = x := by rw [List.getElem?_eq_getElem hkL] at hx1; injection hx1
        have hn1 := all_next L k hkL
        rw [hxe, HO.out, Bool.true_and] at hn1
        have hxo : EntOK x := HX.out x (hxe ▸ List.getElem_mem hkL)
        have HNX := Lib.hid hn1
        have HV := Lib.hid (fun w => Ev.valid_ref x.k x.n x.d hxo.k1 hxo.k2 hxo.n1 hxo.n2 hxo.d w)
        have z0 : (0 : Int) ≤ k := by omega
        clear hc1 hx1 hxe hn1 hh hkL hxo
        obtain ⟨v, hv⟩ : ∃ v, Ev.ok x.k x.n x.d.data.toList = v := ⟨_, rfl⟩
        rw [hv] at HV
        have HVX : Hid (okX x = v) := hv
        clear hv
        cases v
        · have HE := Lib.hid (enc_form (f := f) HN.out (all_no (by rw [HNX.out]; exact HVX.out)))
          go_wp2_with (go_at_call 71; refine (HV.out _).mono ?_; rintro e w1 ⟨rfl, h1⟩)
          go_ret2
          exact EncTo.mk HE.out (HH.out.step h1)
        · go_wp2_with (go_at_call 71; refine (HV.out _).mono ?_; rintro e w1 ⟨rfl, h1⟩)
          go_roundw
          case rel => exact ⟨k + 1, by go_num, by omega, HNX.out.trans HVX.out, HH.out.step h1⟩
          case measure => (simp [RowKit.intOf]) <;> omega
      · obtain rfl : k = n := by omega
        have HA : Hid (L.all okX = true) := show _ = _ by have := HO.out; rw [← HL.out, List.take_length] at this; exact this
        clear hh HO
        have HOR := Lib.hid (fun cap w' (q : Held w w') => ordr_any A k cap L w' (HS.out.held q) (by omega) HX.out)
        go_upto_region 8 with fail
        go_cut [40] (fun v wx => v = .bool (!ord L || early L f) ∧ Held w wx)
        case first =>
          obtain ⟨o, ho⟩ : ∃ o, ord L = o := ⟨_, rfl⟩
          rw [ho] at HOR
          have HHO := Lib.hid ho
          clear ho
          cases o
          · go_wp2_with (go_at_call 72; refine (HOR.out _ _ HH.out).mono ?_; rintro e w1 ⟨rfl, h1⟩)
            go_meet
            exact ⟨by rw [HHO.out]; rfl, HH.out.step h1⟩
          · by_cases hk0 : k = 0
            · have he : Hid (early L f = false) := show _ = _ by
                have : L = [] := List.eq_nil_of_length_eq_zero (by have := HL.out; omega)
                subst this; rfl
              have d1 : decide ((0 : Int) < k) = false := by simp; omega
              have d1n : decide (0 < k) = false := by simp; omega
              clear hk0
              go_wp2_with (go_at_call 72; refine (HOR.out _ _ HH.out).mono ?_; rintro e w1 ⟨rfl, h1⟩)
              go_meet
              exact ⟨by rw [HHO.out, he.out]; rfl, HH.out.step h1⟩
            · obtain ⟨b, off, x, rfl, hb, hx1, hc1⟩ := HS.out.at_ (Held.refl w) (k := 0) (by omega)
              have x0 := hc1 0 _ rfl
              simp only [Nat.zero_mul, Nat.add_zero] at x0
              have he : Hid (early L f = decide (x.t < f)) := show _ = _ by unfold early; rw [hx1]
              have d1 : (0 : Int) < k := by omega
              have d1n : 0 < k := by omega
              clear hk0 hc1 hx1
              have X0 := Lib.hid (fun w' (q : Held w w') => q.cell x0)
              clear x0
              by_cases hlt2 : x.t < f
              · have e1 : (x.t : Int) < f := by omega
                go_wp2_with (go_at_call 72; refine (HOR.out _ _ HH.out).mono ?_; rintro e w1 ⟨rfl, h1⟩; have x0 := X0.out _ (HH.out.step h1))
                go_meet
                exact ⟨by rw [HHO.out, he.out]; simp [hlt2], HH.out.step h1⟩
              · have e2 : decide (x.t < f) = false := by simp; omega
                have e1 : decide ((x.t : Int) < f) = false := by simp; omega
                go_wp2_with (go_at_call 72; refine (HOR.out _ _ HH.out).mono ?_; rintro e w1 ⟨rfl, h1⟩; have x0 := X0.out _ (HH.out.step h1))
                go_meet
                exact ⟨by rw [HHO.out, he.out]; simp [hlt2], HH.out.step h1⟩
        case rest =>
          obtain ⟨rfl, hhx⟩ := hcut
          clear HOR HH
          have HH := Lib.hid hhx
          clear hhx
          obtain ⟨o, ho⟩ : ∃ o, (!ord L || early L f) = o := ⟨_, rfl⟩
          rw [ho]
          cases o
          · have HHO := Lib.hid ho
            clear ho
            have hor : ord L = true ∧ early L f = false := by have := HHO.out; simpa using this
            have HOE := Lib.hid hor
            clear hor
            have hpk := Uv.put_len k (by omega)
            have HP := Lib.hid (fun w => put_ref_any k (by omega) w)
            have HLK : Hid (Uv.put L.length = Uv.put k) := show _ = _ by rw [HL.out]
            generalize Uv.put k = pk at hpk HP HLK
            go_wp2_with fail
            refine (HP.out _).mono ?_
            rintro e w1 ⟨rfl, h1⟩
            have W1 := Lib.hid (HH.out.step h1)
            obtain ⟨bv, w2, hcv, hbo, hh2⟩ := ByB.of_string ⟨pk.toArray⟩ w1 (by rw [ba_size]; omega)
            have B2 : Hid (ByB.BOwn w.heap.size w2 bv (pk ++ encF f (L.take 0))) := by
              have := hbo
              simp only [List.take_zero, encF, List.append_nil]
              obtain ⟨g, cp, q1, q2, q3⟩ := this.out
              exact ⟨g, cp, q1, Nat.le_trans W1.out.le q2, q3⟩
            have W2 := Lib.hid (W1.out.step hh2)
            clear h1 HP hbo hh2 HH
            go_wp2
            go_loopw [1, 7, 8] (fun lt v i wr => ∃ q : Nat, i = .int .i64 q ∧ q ≤ k ∧ lt = .int .u64 (lastT f (L.take q) : Nat) ∧ ByB.BOwn w.heap.size wr v (pk ++ encF f (L.take q)) ∧ Held w wr) (fun _ _ i _ => k - (RowKit.intOf i).toNat)
            case atStart => exact ⟨0, rfl, Nat.zero_le _, rfl, B2.out, W2.out⟩
            case round =>
              obtain ⟨q, rfl, hq, rfl, hi, hh⟩ := hrel
              have HI := Lib.hid hi
              have HH := Lib.hid hh
              have hel : (encF f (L.take q)).length ≤ 168 * q := by
                have := encF_len (L := L.take q) (fun y hy => ⟨HX.out y (List.mem_of_mem_take hy), by have h9 := HA.out; rw [List.all_eq_true] at h9; exact h9 y (List.mem_of_mem_take hy)⟩) f
                rw [List.length_take] at this
                omega
              clear hi B2 W2
              by_cases hlt2 : (q : Int) < k
              · obtain ⟨b, off, x, rfl, hb, hx1, hc1⟩ := HS.out.at_ (Held.refl w) (k := q) (by omega)
                have x0 := hc1 0 _ rfl
                have x1 := hc1 1 _ rfl
                have x2 := hc1 2 _ rfl
                have x3 := hc1 3 _ rfl
                rw [Nat.add_zero] at x0
                have hqL : q < L.length := by have := HL.out; omega
                have hxe : L[q] = x := by rw [List.getElem?_eq_getElem hqL] at hx1; injection hx1
                have hxm : x ∈ L := hxe ▸ List.getElem_mem hqL
                have hxo := HX.out x hxm
                have hxk : okX x = true := by have h9 := HA.out; rw [List.all_eq_true] at h9; exact h9 x hxm
                obtain ⟨k1, k6, kd⟩ := ok_bd hxk
                have hle := last_le HOE.out.1 HOE.out.2 hqL
                have hln := lastT_next L f q hqL
                have hen := encF_next L f q hqL
                rw [hxe] at hle hln hen
                have hxt := hxo.t
                have hxn := hxo.n1
                have hxn2 := hxo.n2
                clear hxm hxo hxk hxe hx1 hc1
                obtain ⟨t, kk, nn, d⟩ := x
                simp only at x0 x1 x2 x3 k1 k6 kd hle hln hen hxt hxn hxn2
                obtain ⟨kk, rfl⟩ := Int.eq_ofNat_of_zero_le (show 0 ≤ kk by omega)
                obtain ⟨nn, rfl⟩ := Int.eq_ofNat_of_zero_le hxn
                rw [len_eq] at kd
                generalize lastT f (L.take q) = lt at hle hen ⊢
                have HLN := Lib.hid hln
                have HEN := Lib.hid hen
                have hsub : IntKind.u64.wrap ((t : Int) - (lt : Int)) = ((t - lt : Nat) : Int) := by
                  rw [IntWalk.u64_in _ (by omega)]; omega
                have HP := Lib.hid (fun w => put_ref_any (t - lt) (by omega) w)
                have hpl := Uv.put_len (t - lt) (by omega)
                have HQ := Lib.hid (fun w => putr_any kk nn d (by omega) (by omega) (by omega) kd w)
                unfold MakesS at HQ
                have hql := encE_len (k := kk) (n := nn) (d := d.data.toList) (by omega) (by omega) (by omega) (by omega) (by rw [len_eq]; exact kd)
                have hcl : (pk ++ encF f (L.take q)).length ≤ 70000 := by rw [List.length_append]; omega
                generalize Uv.put (t - lt) = pt at HP hpl HEN hen
                generalize encE kk nn d.data.toList = pe at HQ hql HEN hen
                have hacc : pk ++ encF f (L.take q) ++ pt ++ pe = pk ++ encF f (L.take (q + 1)) := by rw [hen]; simp only [List.append_assoc]
                generalize pk ++ encF f (L.take q) = acc at HI hcl hacc
                have HACC : Hid (acc ++ pt ++ pe = pk ++ encF f (L.take (q + 1))) := hacc
                have z0 : (0 : Int) ≤ q := by omega
                have HC := Lib.hid fun (w' : World) (k : Held w w') => And.intro (k.cell x0) (And.intro (k.cell x1) (And.intro (k.cell x2) (k.cell x3)))
                clear hln hen hh hle x0 x1 x2 x3 hacc
                obtain ⟨x0, x1, x2, x3⟩ := HC.out _ HH.out
                go_wp2_with fail
                refine (HP.out _).mono ?_
                rintro e w3 ⟨rfl, h3⟩
                obtain ⟨v4, w4, hr4, hb4, hk4⟩ := ByB.app_run (HI.out.held h3) (HH.out.step h3).le ⟨pt.toArray⟩ (by rw [ba_size]; omega) 63
                have W4 := Lib.hid (hk4 w (HH.out.step h3) (Nat.le_refl _))
                have B4 : Hid (ByB.BOwn w.heap.size w4 v4 (acc ++ pt)) := hb4
                clear h3 HP hb4 hk4 x0 x1 x2 x3
                obtain ⟨x0, x1, x2, x3⟩ := HC.out _ W4.out
                go_wp2_with (refine Sg.list_append rfl _ _ _ _ 63 rfl rfl rfl rfl hr4 ?_)
                refine (HQ.out _).mono ?_
                rintro e w5 ⟨rfl, h5⟩
                obtain ⟨v6, w6, hr6, hb6, hk6⟩ := ByB.app_run (B4.out.held h5) (W4.out.step h5).le ⟨pe.toArray⟩ (by rw [ba_size, List.length_append]; omega) 63
                have W6 := Lib.hid (hk6 w (W4.out.step h5) (Nat.le_refl _))
                have B6 : Hid (ByB.BOwn w.heap.size w6 v6 (pk ++ encF f (L.take (q + 1)))) := by rw [← HACC.out]; exact hb6
                clear h5 HQ hb6 hk6 x0 x1 x2 x3 hr4
                obtain ⟨x0, x1, x2, x3⟩ := HC.out _ W6.out
                go_wp2_with (refine Sg.list_append rfl _ _ _ _ 63 rfl rfl rfl rfl hr6 ?_)
                go_roundw
                case rel => exact ⟨q + 1, by go_num, by omega, by rw [HLN.out], B6.out, W6.out⟩
                case measure => (simp [RowKit.intOf]) <;> omega
              · obtain rfl : q = k := by omega
                have htk : L.take q = L := by rw [← HL.out, List.take_length]
                have hcl : (pk ++ encF f L).length ≤ 70000 := by rw [htk] at hel; rw [List.length_append]; omega
                rw [htk] at HI
                clear hh hel htk
                have hcc : Uv.put L.length ++ encF f L = pk ++ encF f L := by rw [HLK.out]
                by_cases h65 : 65536 < (pk ++ encF f L).length
                · have HE := Lib.hid (enc_big (f := f) HN.out HA.out (by simp [HOE.out.1, HOE.out.2]) (by rw [hcc]; exact h65))
                  clear hcc
                  obtain ⟨r, hr⟩ : ∃ r, pk ++ encF f L = r := ⟨_, rfl⟩
                  rw [hr] at HI h65 hcl
                  have h65' : (65536 : Int) < r.length := by omega
                  clear hr
                  obtain ⟨g, cp, rfl, _⟩ := HI.out.out
                  go_wp2
                  go_ret2
                  exact EncTo.mk HE.out HH.out
                · have HE := Lib.hid (enc_yes (f := f) HN.out HA.out (by simp [HOE.out.1, HOE.out.2]) (by rw [hcc]; exact h65))
                  rw [hcc] at HE
                  clear hcc
                  obtain ⟨r, hr⟩ : ∃ r, pk ++ encF f L = r := ⟨_, rfl⟩
                  rw [hr] at HI HE h65 hcl
                  have h65' : ¬ (65536 : Int) < r.length := by omega
                  clear hr
                  have hbk := ByB.back HI.out
                  obtain ⟨g, cp, rfl, _⟩ := HI.out.out
                  go_wp2
                  go_ret2
                  exact EncTo.mk (by rw [HE.out]) HH.out
          · have HE := Lib.hid (enc_order HN.out HA.out ho)
            clear ho
            go_wp2
            go_ret2
            exact EncTo.mk HE.out HH.out
end Enc
end Go.Proofs.YthpjbffhdaaibaaGreat

set_option linter.unusedVariables false
set_option linter.unusedSimpArgs false
set_option maxRecDepth 100000
namespace Go.Proofs.YthpjbffhdaaibaaGreat
open Go.RowKit Go.Lib
namespace Enc
open Uv Lg Lgc Strs
theorem Fol.no_Q {s rest t1 : List UInt8} {f c i at_ x : Nat} {L : List Ent} {b1 : Bool} {v : EvV} (h : Fol s f c i L rest at_) (hi : i < c) (h1 : numR rest false = (x, t1, b1)) (h2 : evQ t1 b1 = v) (hb : v.b = true) : decL s f = ([], 1900) := by
  refine decL_no (h.stop hi fun y t hy hok hle hr => ?_)
  rw [hr, numR_put _ (by have := hy.t; omega)] at h1
  injection h1 with e1 h1
  injection h1 with e2 e3
  subst e1 e2 e3
  rw [evQ_enc hok ⟨hy.n1, hy.n2⟩] at h2
  subst h2
  cases hb
theorem Fol.far_Q {s rest t1 : List UInt8} {f c i at_ x : Nat} {L : List Ent} {b1 : Bool} (h : Fol s f c i L rest at_) (hi : i < c) (h1 : numR rest false = (x, t1, b1)) (hx : 18446744073709551615 - at_ < x) : decL s f = ([], 1900) := by
  refine decL_no (h.stop hi fun y t hy hok hle hr => ?_)
  have hyt := hy.t
  rw [hr, numR_put _ (by omega)] at h1
  injection h1 with e1 h1
  omega
theorem Fol.yes_Q {s rest t1 : List UInt8} {f c i at_ x : Nat} {L : List Ent} {b1 : Bool} {v : EvV} {ds : ByteArray} {y : Ent} (h : Fol s f c i L rest at_) (hi : i < c) (h1 : numR rest false = (x, t1, b1)) (h2 : evQ t1 b1 = v) (hd : ds.data.toList = v.d)
    (hy : y = ⟨at_ + x, v.k, v.n, ds⟩) : Fol s f c (i + 1) (L ++ [y]) v.t y.t := by
  subst hy
  refine h.step hi fun z t hz hok hle hr => ?_
  have hzt := hz.t
  rw [hr, numR_put _ (by omega)] at h1
  injection h1 with e1 h1
  injection h1 with e2 e3
  subst e1 e2 e3
  rw [evQ_enc hok ⟨hz.n1, hz.n2⟩] at h2
  subst h2
  have hz1 := ok_bd hok
  have hz2 := hz.n1
  refine ⟨ent_ext ?_ ?_ ?_ hd, rfl⟩
  · simp only; omega
  · simp only; omega
  · simp only; omega
set_option maxHeartbeats 4000000 in
theorem decoder_any (s : ByteArray) (f : Nat) (hs : (s.size : Int) ≤ 1000000000000) (hf : (f : Int) ≤ 18446744073709551615) (w : World) : Calls Tryz.prog 48 #[.string s, .int .u64 f] w (DecTo (decL s.data.toList f) w) := by
  obtain ⟨l, hl⟩ : ∃ l, s.data.toList = l := ⟨_, rfl⟩
  have HS := Lib.hid hl
  have hsl : l.length = s.size := by rw [← hl, len_eq]
  have hnum := fun (w : World) => number_ref_any w.heap.size s false (by omega) (w.alloc (.cells #[.string s, .bool false] 123)) (Bx.new w _)
  rw [hl] at hnum ⊢
  obtain ⟨c, t0, b0, hn⟩ : ∃ c t0 b0, numR l false = (c, t0, b0) := ⟨_, _, _, rfl⟩
  have hcl := numR_lt l false
  have htl := numR_len l false
  rw [hn] at hnum hcl htl
  have HN := Lib.hid hn
  have HNUM := Lib.hid hnum
  simp only at hcl htl
  clear hnum hn hl
  go_enter Tryz.func48, Tryz.ntmps48
  go_wp2_with fail
  refine (HNUM.out _).mono ?_
  rintro e w1 ⟨rfl, s1, hs1, hb1, hg1⟩
  have HS1 : Is s1.data.toList t0 := ⟨hs1⟩
  have hl1 : s1.size = t0.length := by rw [← hs1, len_eq]
  have M1 : Hid (Mem w w1 [.box w.heap.size #[.string s1, .bool b0] 123]) := ((Mem.start w).alloc' (b := w.heap.size) rfl #[.string s, .bool false] 123).callBx 0 rfl hg1 hb1
  clear hs1 hb1 hg1 HNUM
  obtain ⟨⟨c0, c1⟩, _, cl⟩ := M1.out.box2 0 rfl
  cases b0
  case true =>
    go_wp2
    go_ret2
    exact DecTo.no (decL_no (Fol.bad HN.out)) M1.out.held
  case false =>
  by_cases hc : (c : Int) ≤ 400
  · have hc2 : ¬ (400 : Int) < c := by omega
    have HF0 : Hid (Fol l f c 0 [] t0 f) := Fol.start HN.out
    go_wp2
    have M2 := Lib.hid (M1.out.nilRow (e := 70) (s := 4) (f := entC))
    clear c0 c1 cl
    go_loopw [8, 9, 10] (fun v a i wr => ∃ (L : List Ent) (q at_ : Nat) (sr : ByteArray) (bb : Bool), a = .int .u64 (at_ : Int) ∧ at_ < 18446744073709551616 ∧ i = .int .u64 (q : Int) ∧ q ≤ c ∧ L.length = q ∧ sr.size ≤ l.length ∧ (∀ x ∈ L, EntOK x) ∧ (bb = false → Fol l f c q L sr.data.toList at_) ∧ (bb = true → decL l f = ([], 1900)) ∧ Mem w wr [.box w.heap.size #[.string sr, .bool bb] 123, .row 70 4 entC w.heap.size v L]) (fun _ _ i _ => c - (RowKit.intOf i).toNat)
    case atStart => exact ⟨[], 0, f, s1, false, rfl, by omega, rfl, Nat.zero_le _, rfl, by omega, fun x hx => by simp at hx, (fun _ => by rw [HS1.out]; exact HF0.out), (fun h => by cases h), M2.out⟩
    case round =>
      obtain ⟨L, q, at_, sr, bb, rfl, hat, rfl, hqc, hLq, hsr, hLok, hF, hD, hM⟩ := hrel
      obtain ⟨A, cap, rfl, hcap, _⟩ := (hM.row 1 rfl).shape
      obtain ⟨rest, hr⟩ : ∃ rest, sr.data.toList = rest := ⟨_, rfl⟩
      rw [hr] at hF
      have HR : Is sr.data.toList rest := ⟨hr⟩
      have hrl : rest.length = sr.size := by rw [← hr, len_eq]
      have HF1 := Lib.hid hF
      have HDD := Lib.hid hD
      have HLQ : Is L.length q := ⟨hLq⟩
      have HLOK := Lib.hid hLok
      have M := Lib.hid hM
      rw [hLq] at M hcap ⊢
      clear hr hF hD hLq hLok hM M1 M2 HF0
      obtain ⟨⟨c0, c1⟩, _, cl⟩ := M.out.box2 0 rfl
      cases bb
      case true =>
        have HNO := Lib.hid (HDD.out rfl)
        clear HDD HF1
        by_cases hlt : q < c
        · have hlt2 : (q : Int) < c := by omega
          go_wp2
          go_ret2
          exact DecTo.no HNO.out M.out.held
        · have hlt2 : ¬ (q : Int) < c := by omega
          go_wp2
          go_ret2
          exact DecTo.no HNO.out M.out.held
      case false =>
      have HF := Lib.hid (HF1.out rfl)
      clear HDD HF1
      by_cases hlt : q < c
      · have hlt2 : (q : Int) < c := by omega
        obtain ⟨x, t1, b1, hn1⟩ : ∃ x t1 b1, numR rest false = (x, t1, b1) := ⟨_, _, _, rfl⟩
        have hnum := number_ref_any w.heap.size sr false (by omega) wr (M.out.blk 0 rfl)
        rw [HR.out, hn1] at hnum
        have HNUM := Lib.hid hnum
        have hxl := numR_lt rest false
        have htl2 := numR_len rest false
        rw [hn1] at hxl htl2
        simp only at hxl htl2
        have HN1 := Lib.hid hn1
        have hws : IntKind.u64.wrap (18446744073709551615 - (at_ : Int)) = 18446744073709551615 - (at_ : Int) := IntWalk.u64_in _ (by omega)
        clear hnum hn1
        go_wp2_with fail
        refine HNUM.out.mono ?_
        rintro e w2 ⟨rfl, s2, hs2, hb2, hg2⟩
        have HS2 : Is s2.data.toList t1 := ⟨hs2⟩
        have hl2 : s2.size = t1.length := by rw [← hs2, len_eq]
        have M3 := Lib.hid (M.out.callBx 0 rfl hg2 hb2)
        clear hs2 hb2 hg2 HNUM M c0 c1 cl
        by_cases hfar : (18446744073709551615 - (at_ : Int)) < x
        · have HNO := Lib.hid (HF.out.far_Q hlt HN1.out (by omega))
          go_wp2
          go_ret2
          exact DecTo.no HNO.out M3.out.held
        obtain ⟨at2, hat2⟩ : ∃ at2, at_ + x = at2 := ⟨_, rfl⟩
        have hw : IntKind.u64.wrap ((at_ : Int) + x) = (at2 : Int) := by rw [IntWalk.u64_in _ (by omega)]; omega
        have hw2 : (at_ : Int) + x = (at2 : Int) := by omega
        have hat2l : at2 < 18446744073709551616 := by omega
        have HAT2 := Lib.hid hat2
        clear hat2
        obtain ⟨v, hv⟩ : ∃ v, evQ t1 b1 = v := ⟨_, rfl⟩
        have hev := eventr_any w.heap.size s2 b1 (by omega) w2 (M3.out.blk 0 rfl)
        rw [HS2.out, hv] at hev
        have HEV := Lib.hid hev
        have HV := Lib.hid hv
        have hvl := evQ_lens t1 b1
        rw [hv] at hvl
        obtain ⟨vk, vn, vd, vt, vb⟩ := v
        simp only at hvl
        clear hev hv
        go_wp2_with fail
        refine HEV.out.mono ?_
        rintro e w3 ⟨ds, rfl, hds, s3, hs3, hb3, hg3⟩
        dsimp only at hds hs3 hb3 ⊢
        have HDS : Is ds.data.toList vd := ⟨hds⟩
        have HS3 : Is s3.data.toList vt := ⟨hs3⟩
        have hl3 : s3.size = vt.length := by rw [← hs3, len_eq]
        have hld : ds.size = vd.length := by rw [← hds, len_eq]
        have M4 := Lib.hid (M3.out.callBx 0 rfl hg3 hb3)
        clear hds hs3 hb3 hg3 HEV M3
        have HNO : Hid (vb = true → decL l f = ([], 1900)) := fun h => HF.out.no_Q hlt HN1.out HV.out h
        have HY := Lib.hid (HF.out.yes_Q hlt HN1.out HV.out HDS.out (y := ⟨at2, vk, vn, ds⟩) (by rw [HAT2.out]))
        have M6 := Lib.hid (M4.out.skip (.cells #[.int .u64 (at2 : Int), .int .i64 (vk : Int), .int .u32 (vn : Int), .string ds] 70))
        go_wp2_with (at_builtin; refine Mem.wp_app M6.out 1 rfl rfl _ _ _ rfl _ 40 Tryz.underlying23 info_entry rfl (by decide) entC_len entC_one ⟨at2, vk, vn, ds⟩ ⟨w3.heap.size, 0, none⟩ 1 rfl rfl (cells_new _ rfl _ _) q HLQ.out (by omega) (by decide) ?_; intro g4 cp4 w4 M7'; have M7 := Lib.hid M7'; clear M7')
        go_roundw
        case rel =>
          refine ⟨L ++ [(⟨at2, (vk : Int), (vn : Int), ds⟩ : Ent)], q + 1, at2, s3, vb, rfl, hat2l, by go_num, by omega, by rw [List.length_append, HLQ.out]; rfl, by omega, fun y hy => ?_, (fun _ => by rw [HS3.out]; exact HY.out), HNO.out, (M7.out : Mem w w4 [.box w.heap.size #[.string s3, .bool vb] 123, .row 70 4 entC w.heap.size (.slice (some ⟨g4, 0, none⟩) (q + 1) cp4) (L ++ [(⟨at2, (vk : Int), (vn : Int), ds⟩ : Ent)])])⟩
          rcases List.mem_append.1 hy with hy | hy
          · exact HLOK.out y hy
          · rw [List.mem_singleton] at hy
            subst hy
            exact ⟨hat2l, by simp only; omega, by simp only; omega, by simp only; omega, by simp only; omega, by simp only; omega⟩
        case measure => (simp [RowKit.intOf]) <;> omega
      · obtain rfl : q = c := by omega
        have hlt2 : ¬ (q : Int) < q := by omega
        by_cases hrest : (0 : Int) < sr.size
        · have HNO := Lib.hid (decL_no (HF.out.rest (by intro e; rw [e] at hrl; simp at hrl; omega)))
          go_wp2
          go_ret2
          exact DecTo.no HNO.out M.out.held
        have hrest0 : (sr.size : Int) = 0 := by omega
        have HSL := Lib.hid (Own.reads entC_len (M.out.row 1 rfl)).1
        have henc := fun (w' : World) (k : Held wr w') => encoder_any A q cap L f w' (HSL.out.held k) (by omega) HLOK.out hf
        obtain ⟨r, hr⟩ : ∃ r, encode L f = r := ⟨_, rfl⟩
        rw [hr] at henc
        have HR1 := Lib.hid hr
        have HENC := Lib.hid henc
        have HFIN := Lib.hid (show (r = (l, 0) → decL l f = (L, 0)) ∧ (r ≠ (l, 0) → decL l f = ([], 1900)) by rw [← hr]; exact HF.out.done HLOK.out)
        obtain ⟨rt, rc⟩ := r
        clear hr henc
        go_wp2_with fail
        refine (HENC.out _ (Held.refl _)).mono ?_
        rintro e w2 ⟨rfl, h2⟩
        have H2 := Lib.hid (M.out.keep h2)
        clear h2 HENC c0 c1 cl
        dsimp only
        by_cases hrc : rc = 0
        · subst hrc
          by_cases hrt : rt = l
          · subst hrt
            have hq1 : (rt == s.toList) = true := by rw [ByteArray.toList_eq, HS.out]; simp
            have hq2 : (!rt == s.toList) = false := by rw [hq1]; rfl
            have HD := Lib.hid (HFIN.out.1 rfl)
            clear HR1 HFIN HF HN HS
            go_wp2
            go_ret2
            rw [HD.out]
            exact ⟨A, cap, by rw [HLQ.out]; rfl, by rw [HLQ.out]; exact H2.out.row 1 rfl, H2.out.held, HLOK.out, by rw [HLQ.out]; omega⟩
          · have hq1 : (rt == s.toList) = false := by rw [ByteArray.toList_eq, HS.out]; simpa using hrt
            have hq2 : (!rt == s.toList) = true := by rw [hq1]; rfl
            have HD := Lib.hid (HFIN.out.2 (fun h => hrt (by injection h)))
            clear HR1 HFIN HF HN HS hrt
            go_wp2
            go_ret2
            exact DecTo.no HD.out H2.out.held
        · have hrc2 : (rc == 0) = false := by simpa using hrc
          have HD := Lib.hid (HFIN.out.2 (fun h => hrc (by injection h)))
          clear HR1 HFIN HF HN HS
          go_wp2
          go_ret2
          exact DecTo.no HD.out H2.out.held
  · have hc2 : (400 : Int) < c := by omega
    go_wp2
    go_ret2
    exact DecTo.no (decL_no (Fol.many HN.out (by omega))) M1.out.held
end Enc
end Go.Proofs.YthpjbffhdaaibaaGreat
