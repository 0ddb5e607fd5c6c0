/-
  Contracts of the reference: reader.word, reader.event (printed by wip/tools/mkrsc.py; chapters 19, 24).
-/
import Derived.Test.YtdacgdokbfcgdaaGreatWxDcD
set_option linter.unusedVariables false
set_option linter.unusedSimpArgs false
set_option maxRecDepth 100000
namespace Go.Proofs.YtdacgdokbfcgdaaGreat
open Go.RowKit Go.Lib
namespace Enc
open Uv Lg Lgc Strs
def wordQ (l : List UInt8) (bad : Bool) : Nat × List UInt8 × Bool := ((numR l bad).1 &&& 4294967295, (numR l bad).2.1, (numR l bad).2.2 || decide (4294967295 < (numR l bad).1))
theorem wordQ_put (x : Nat) (hx : x ≤ 4294967295) (t : List UInt8) : wordQ (put x ++ t) false = (x, t, false) := by
  unfold wordQ
  rw [numR_put x (by omega) t]
  simp only
  rw [show (4294967295 : Nat) = 2 ^ 32 - 1 from rfl, Nat.and_two_pow_sub_one_eq_mod, Nat.mod_eq_of_lt (by omega)]
  simp; omega
theorem wordQ_lt (l : List UInt8) (b : Bool) : (wordQ l b).1 ≤ 4294967295 := Nat.and_le_right
theorem wordQ_len (l : List UInt8) (b : Bool) : (wordQ l b).2.1.length ≤ l.length := numR_len l b
theorem wordr_any (b : Nat) (s : ByteArray) (bad : Bool) (hs : s.size ≤ 9223372036854775807) (w : World) (hb : w.heap[b]? = some (.cells #[.string s, .bool bad] 92 (0, 0))) :
    Calls Tryz.prog 51 #[.pointer (some ⟨b, 0, none⟩)] w (Reads 92 (.int .u32 (wordQ s.data.toList bad).1) b (wordQ s.data.toList bad).2.1 (wordQ s.data.toList bad).2.2 w) := by
  have hlt := numR_lt s.data.toList bad
  have hn := number_ref_any b s bad hs w hb
  obtain ⟨x, t, b2, hnr⟩ : ∃ x t b2, numR s.data.toList bad = (x, t, b2) := ⟨_, _, _, rfl⟩
  have HW : Is (wordQ s.data.toList bad) (x &&& 4294967295, t, b2 || decide (4294967295 < x)) := ⟨by unfold wordQ; rw [hnr]⟩
  rw [HW.out]
  rw [hnr] at hn hlt
  have hy : x &&& 4294967295 ≤ 4294967295 := Nat.and_le_right
  have ha := u64_and_nat x 4294967295 hlt (by omega)
  have HN := Lib.hid hn
  clear hnr hn HW
  obtain ⟨y, hye⟩ : ∃ y, x &&& 4294967295 = y := ⟨_, rfl⟩
  rw [hye] at hy ha ⊢
  have ha2 : bits .and .u64 (x : Int) 4294967295 = (y : Int) := ha
  have hw : IntKind.u32.wrap (y : Int) = (y : Int) := IntWalk.u32_in _ (by omega)
  clear ha hye
  by_cases h1 : (4294967295 : Int) < x
  · have hd : decide (4294967295 < x) = true := decide_eq_true (by omega)
    rw [hd]
    go_enter Tryz.func51, Tryz.ntmps51
    go_wp2_with fail
    refine HN.out.mono ?_
    rintro e w1 ⟨rfl, s1, hs1, hb1, hg⟩
    have c1 := box_cell hb1 1 rfl
    have f1 := box_free hb1 1
    have HB := Lib.hid hb1
    have HG := Lib.hid hg
    clear hb1 hg
    go_wp2
    go_ret
    refine ⟨rfl, s1, hs1, ?_, ?_⟩
    · rw [box_set HB.out]; simp
    · exact grown_trans HG.out (grown_set _ _ _ _)
  · have hd : decide (4294967295 < x) = false := decide_eq_false (by omega)
    rw [hd, Bool.or_false]
    go_enter Tryz.func51, Tryz.ntmps51
    go_wp2_with fail
    refine HN.out.mono ?_
    rintro e w1 ⟨rfl, s1, hs1, hb1, hg⟩
    have HB := Lib.hid hb1
    have HG := Lib.hid hg
    clear hb1 hg
    go_wp2
    go_ret
    exact ⟨rfl, s1, hs1, HB.out, HG.out⟩
/-- An event, read by the reference. -/
def evQ (l : List UInt8) (bad : Bool) : EvV :=
  let k := (numR l bad).1
  let t1 := (numR l bad).2.1
  let b1 := (numR l bad).2.2
  if 6 < k then ⟨0, 0, [], t1, true⟩
  else if k = 1 ∨ k = 3 ∨ k = 6 then ⟨k, (wordQ t1 b1).1, [], (wordQ t1 b1).2.1, (wordQ t1 b1).2.2⟩
  else if k = 4 then ⟨k, (wordQ t1 b1).1, (dataR (wordQ t1 b1).2.1 (wordQ t1 b1).2.2).1, (dataR (wordQ t1 b1).2.1 (wordQ t1 b1).2.2).2.1, (dataR (wordQ t1 b1).2.1 (wordQ t1 b1).2.2).2.2⟩
  else if k = 5 then ⟨k, 0, (dataR t1 b1).1, (dataR t1 b1).2.1, (dataR t1 b1).2.2⟩
  else ⟨k, 0, [], t1, b1⟩
theorem evQ_enc {k n : Int} {d : List UInt8} (hv : Ev.ok k n d = true) (hn : 0 ≤ n ∧ n ≤ 4294967295) (t : List UInt8) : evQ (encE k n d ++ t) false = ⟨k.toNat, n.toNat, d, t, false⟩ := by
  obtain ⟨b1, b2, b3⟩ := ok_bd hv
  rcases (by omega : (k = 1 ∨ k = 3 ∨ k = 6) ∨ k = 2 ∨ k = 4 ∨ k = 5) with hk | hk | hk | hk
  · rw [encE_1 hk, List.append_assoc]
    unfold evQ
    rw [numR_put _ (by omega)]
    simp only
    rw [if_neg (by omega), if_pos (by omega), wordQ_put _ (by omega), ok_1 hv hk]
  · subst hk
    rw [encE_2 rfl]
    unfold evQ
    rw [numR_put _ (by omega)]
    simp only
    rw [if_neg (by decide), if_neg (by decide), if_neg (by decide), if_neg (by decide), (ok_2 hv).1, (ok_2 hv).2]; rfl
  · subst hk
    rw [encE_4 rfl]
    simp only [List.append_assoc]
    unfold evQ
    rw [numR_put _ (by omega)]
    simp only
    rw [if_neg (by decide), if_neg (by decide), if_pos (by decide), wordQ_put _ (by omega), dataR_put2 _ _ (by omega)]
  · subst hk
    rw [encE_5 rfl]
    simp only [List.append_assoc]
    unfold evQ
    rw [numR_put _ (by omega)]
    simp only
    rw [if_neg (by decide), if_neg (by decide), if_neg (by decide), if_pos (by decide), dataR_put2 _ _ (by omega), ok_5 hv]; rfl
theorem evQ_lens (l : List UInt8) (b : Bool) : (evQ l b).k ≤ 6 ∧ (evQ l b).n ≤ 4294967295 ∧ (evQ l b).d.length ≤ l.length ∧ (evQ l b).t.length ≤ l.length := by
  have h2 := numR_len l b
  have h3 := wordQ_lt (numR l b).2.1 (numR l b).2.2
  have h4 := wordQ_len (numR l b).2.1 (numR l b).2.2
  have h5 := dataR_len (numR l b).2.1 (numR l b).2.2
  have h6 := dataR_len (wordQ (numR l b).2.1 (numR l b).2.2).2.1 (wordQ (numR l b).2.1 (numR l b).2.2).2.2
  unfold evQ
  simp only
  split
  · simp only [List.length_nil]; omega
  · split
    · simp only [List.length_nil]; omega
    · split
      · simp only; omega
      · split
        · simp only; omega
        · simp only [List.length_nil]; omega
def EvToR (b : Nat) (v : EvV) (w : World) (e : Ending) (w' : World) : Prop := ∃ ds : ByteArray, e = .returned (.agg #[.int .i64 (v.k : Int), .int .u32 (v.n : Int), .string ds]) ∧ ds.data.toList = v.d ∧ Lgc.Left 92 b v.t v.b w w'
/-- Three blocks known whole: the reader's, the result's, the event's. -/
structure E3R (w : World) (b r e : Nat) (bc rc ec : Array Value) : Prop where
  hb : w.heap[b]? = some (.cells bc 92 (0, 0))
  hr : w.heap[r]? = some (.cells rc 66 (0, 0))
  he : w.heap[e]? = some (.cells ec 66 (0, 0))
  n1 : r ≠ b
  n2 : e ≠ b
  n3 : e ≠ r
namespace E3R
variable {w w' : World} {b r e : Nat} {bc rc ec : Array Value}
theorem call {bc' : Array Value} (h : E3R w b r e bc rc ec) (hg : w.grownBy w' (some b)) (hb : w'.heap[b]? = some (.cells bc' 92 (0, 0))) : E3R w' b r e bc' rc ec :=
  ⟨hb, grown_keeps hg h.n1 h.hr, grown_keeps hg h.n2 h.he, h.n1, h.n2, h.n3⟩
theorem putB (h : E3R w b r e bc rc ec) (j : Nat) (v : Value) : E3R (w.setCell ⟨b, j, none⟩ v) b r e (bc.setIfInBounds j v) rc ec :=
  ⟨Bx.set h.hb j v, (Bx.far h.n1).trans h.hr, (Bx.far h.n2).trans h.he, h.n1, h.n2, h.n3⟩
theorem putE (h : E3R w b r e bc rc ec) (j : Nat) (v : Value) : E3R (w.setCell ⟨e, j, none⟩ v) b r e bc rc (ec.setIfInBounds j v) :=
  ⟨(Bx.far (Ne.symm h.n2)).trans h.hb, (Bx.far (Ne.symm h.n3)).trans h.hr, Bx.set h.he j v, h.n1, h.n2, h.n3⟩
theorem putR (h : E3R w b r e bc rc ec) (j : Nat) (v : Value) : E3R (w.setCell ⟨r, j, none⟩ v) b r e bc (rc.setIfInBounds j v) ec :=
  ⟨(Bx.far (Ne.symm h.n1)).trans h.hb, Bx.set h.hr j v, (Bx.far h.n3).trans h.he, h.n1, h.n2, h.n3⟩
theorem facts {x0 x1 x2 : Value} (h : E3R w b r e bc rc #[x0, x1, x2]) : (w.cell? ⟨e, 0, none⟩ = some x0 ∧ w.cell? ⟨e, 1, none⟩ = some x1 ∧ w.cell? ⟨e, 2, none⟩ = some x2) ∧ (w.frozen? ⟨e, 0, none⟩ = false ∧ w.frozen? ⟨e, 1, none⟩ = false ∧ w.frozen? ⟨e, 2, none⟩ = false) ∧ e < w.heap.size :=
  ⟨⟨Bx.cell h.he 0 rfl, Bx.cell h.he 1 rfl, Bx.cell h.he 2 rfl⟩, ⟨Bx.free h.he 0, Bx.free h.he 1, Bx.free h.he 2⟩, Bx.lt h.he⟩
theorem rfacts {x0 x1 x2 : Value} (h : E3R w b r e bc #[x0, x1, x2] ec) : (w.cell? ⟨r, 0, none⟩ = some x0 ∧ w.cell? ⟨r, 1, none⟩ = some x1 ∧ w.cell? ⟨r, 2, none⟩ = some x2) ∧ (w.frozen? ⟨r, 0, none⟩ = false ∧ w.frozen? ⟨r, 1, none⟩ = false ∧ w.frozen? ⟨r, 2, none⟩ = false) ∧ r < w.heap.size :=
  ⟨⟨Bx.cell h.hr 0 rfl, Bx.cell h.hr 1 rfl, Bx.cell h.hr 2 rfl⟩, ⟨Bx.free h.hr 0, Bx.free h.hr 1, Bx.free h.hr 2⟩, Bx.lt h.hr⟩
theorem bfacts {x0 x1 : Value} (h : E3R w b r e #[x0, x1] rc ec) : (w.cell? ⟨b, 0, none⟩ = some x0 ∧ w.cell? ⟨b, 1, none⟩ = some x1) ∧ (w.frozen? ⟨b, 0, none⟩ = false ∧ w.frozen? ⟨b, 1, none⟩ = false) ∧ b < w.heap.size :=
  ⟨⟨Bx.cell h.hb 0 rfl, Bx.cell h.hb 1 rfl⟩, ⟨Bx.free h.hb 0, Bx.free h.hb 1⟩, Bx.lt h.hb⟩
theorem rfin {x0 x1 x2 : Value} (h : E3R w b r e bc #[x0, x1, x2] ec) (y0 y1 y2 : Value) : (((w.setCell ⟨r, 0, none⟩ y0).setCell ⟨r, 1, none⟩ y1).setCell ⟨r, 2, none⟩ y2).heap[r]? = some (.cells #[y0, y1, y2] 66 (0, 0)) ∧ (((w.setCell ⟨r, 0, none⟩ y0).setCell ⟨r, 1, none⟩ y1).setCell ⟨r, 2, none⟩ y2).heap[b]? = some (.cells bc 92 (0, 0)) :=
  ⟨(((h.putR 0 y0).putR 1 y1).putR 2 y2).hr, (((h.putR 0 y0).putR 1 y1).putR 2 y2).hb⟩
end E3R
set_option maxHeartbeats 8000000 in
theorem eventr_any (b : Nat) (s : ByteArray) (bad : Bool) (hs : s.size ≤ 9223372036854775807) (w : World) (hb : w.heap[b]? = some (.cells #[.string s, .bool bad] 92 (0, 0))) :
    Calls Tryz.prog 35 #[.pointer (some ⟨b, 0, none⟩)] w (EvToR b (evQ s.data.toList bad) w) := by
  obtain ⟨l, hl⟩ : ∃ l, s.data.toList = l := ⟨_, rfl⟩
  have hsl : s.size = l.length := by rw [← hl, len_eq]
  obtain ⟨k, t1, b1, hw⟩ : ∃ k t1 b1, numR l bad = (k, t1, b1) := ⟨_, _, _, rfl⟩
  have htl := numR_len l bad
  have hkl := numR_lt l bad
  rw [hw] at htl hkl
  simp only at htl hkl
  have hE : evQ l bad = if 6 < k then ⟨0, 0, [], t1, true⟩ else if k = 1 ∨ k = 3 ∨ k = 6 then ⟨k, (wordQ t1 b1).1, [], (wordQ t1 b1).2.1, (wordQ t1 b1).2.2⟩
      else if k = 4 then ⟨k, (wordQ t1 b1).1, (dataR (wordQ t1 b1).2.1 (wordQ t1 b1).2.2).1, (dataR (wordQ t1 b1).2.1 (wordQ t1 b1).2.2).2.1, (dataR (wordQ t1 b1).2.1 (wordQ t1 b1).2.2).2.2⟩
      else if k = 5 then ⟨k, 0, (dataR t1 b1).1, (dataR t1 b1).2.1, (dataR t1 b1).2.2⟩ else ⟨k, 0, [], t1, b1⟩ := by
    unfold evQ; rw [hw]
  have HE := Lib.hid hE
  rw [hl]
  have hblt : b < w.heap.size := (Array.getElem?_eq_some_iff.1 hb).1
  have hll : l.length ≤ 9223372036854775807 := by omega
  have X0 : Hid (E3R ((w.alloc (.cells #[.int .i64 0, .int .u32 0, .string ⟨#[]⟩] 66)).alloc (.cells #[.int .i64 0, .int .u32 0, .string ⟨#[]⟩] 66)) b w.heap.size (w.heap.size + 1) #[.string s, .bool bad] #[.int .i64 0, .int .u32 0, .string ⟨#[]⟩] #[.int .i64 0, .int .u32 0, .string ⟨#[]⟩]) :=
    Lib.hid ⟨Bx.held (Bx.held hb ((Held.refl w).alloc _)) ((Held.refl _).alloc _), Bx.held (Bx.new w _) ((Held.refl _).alloc _), by have := Bx.new (w.alloc (.cells #[.int .i64 0, .int .u32 0, .string ⟨#[]⟩] 66)) (.cells #[.int .i64 0, .int .u32 0, .string ⟨#[]⟩] 66); simpa using this, by omega, by omega, by omega⟩
  have G0 := Lib.hid (grown_held (r := some b) (((Held.refl w).alloc (.cells #[.int .i64 0, .int .u32 0, .string ⟨#[]⟩] 66)).alloc (.cells #[.int .i64 0, .int .u32 0, .string ⟨#[]⟩] 66)))
  have hwd := number_ref_any b s bad hs _ X0.out.hb
  rw [hl, hw] at hwd
  have HWD := Lib.hid hwd
  have hne1 : ¬ b = w.heap.size := by omega
  have hne2 : ¬ b = w.heap.size + 1 := by omega
  have hne3 : ¬ w.heap.size = b := by omega
  have hne4 : ¬ w.heap.size + 1 = b := by omega
  clear hl hw hE hwd hb hsl
  go_enter Tryz.func35, Tryz.ntmps35
  go_wp2_with fail
  refine HWD.out.mono ?_
  rintro e w1 ⟨rfl, s1, hs1, hb1, hg1⟩
  dsimp only at hs1 hb1 ⊢
  have HS1 : Is s1.data.toList t1 := ⟨hs1⟩
  have hl1 : s1.size = t1.length := by rw [← hs1, len_eq]
  have X1 := Lib.hid (X0.out.call hg1 hb1)
  have G1 := Lib.hid (grown_trans G0.out hg1)
  have hz1 : w.heap.size ≤ w1.heap.size := G1.out.size
  clear hs1 hb1 hg1 X0 G0 HWD
  obtain ⟨re, hre⟩ : ∃ re, w.heap.size + 1 = re := ⟨_, rfl⟩
  rw [hre] at X1 hne2 hne4 ⊢
  have hre2 : w.heap.size ≤ re := by omega
  clear hre
  obtain ⟨⟨q0, q1, q2⟩, ⟨qf0, qf1, qf2⟩, qlt⟩ := X1.out.facts
  obtain ⟨⟨r0, r1, r2⟩, ⟨rf0, rf1, rf2⟩, rlt⟩ := X1.out.rfacts
  have hn3 := X1.out.n3
  have hn4 : w.heap.size ≠ re := fun e => hn3 e.symm
  by_cases h6 : (6 : Int) < k
  · have HEV : Is (evQ l bad) ⟨0, 0, [], t1, true⟩ := ⟨by rw [HE.out, if_pos (by omega)]⟩
    obtain ⟨⟨p0, p1⟩, ⟨pf0, pf1⟩, plt⟩ := X1.out.bfacts
    go_wp2
    have X2 := X1.out.putB 1 (.bool true)
    obtain ⟨MR, MB⟩ := X2.rfin (.int .i64 0) (.int .u32 0) (.string ⟨#[]⟩)
    have G2 := grown_new (q := w.heap.size) (Nat.le_refl _) 2 (.string ⟨#[]⟩) (grown_new (q := w.heap.size) (Nat.le_refl _) 1 (.int .u32 0) (grown_new (q := w.heap.size) (Nat.le_refl _) 0 (.int .i64 0) (grown_trans G1.out (grown_set _ b 1 (.bool true)))))
    clear X1 q0 q1 q2 qf0 qf1 qf2 qlt r0 r1 r2 rf0 rf1 rf2 rlt p0 p1 pf0 pf1 plt
    refine bodyPost_ret (Bx.res_c Tryz.results35 rfl (ev_load MR)) rfl ?_
    rw [HEV.out]
    exact ⟨⟨#[]⟩, rfl, rfl, s1, HS1.out, MB, G2⟩
  have hk6 : k ≤ 6 := by omega
  have HK6 : ¬ 6 < k := by omega
  have HE2 := Lib.hid (HE.out.trans (if_neg HK6))
  have X2 := Lib.hid (X1.out.putE 0 (.int .i64 (k : Int)))
  have G2 := Lib.hid (grown_new (q := re) hre2 0 (.int .i64 (k : Int)) G1.out)
  clear HE HK6
  by_cases c1 : k = 1
  · subst c1
    obtain ⟨n2, t2, b2, hw2⟩ : ∃ n2 t2 b2, wordQ t1 b1 = (n2, t2, b2) := ⟨_, _, _, rfl⟩
    have hwl := wordQ_len t1 b1
    rw [hw2] at hwl
    simp only at hwl
    have HW2 : Is (wordQ t1 b1) (n2, t2, b2) := ⟨hw2⟩
    have hwd := wordr_any b s1 b1 (by omega) _ X2.out.hb
    rw [HS1.out, hw2] at hwd
    have HWD := Lib.hid hwd
    clear hwd hw2 r0 r1 r2 rf0 rf1 rf2 rlt
    go_wp2_with fail
    refine HWD.out.mono ?_
    rintro e w2 ⟨rfl, s2, hs2, hb2, hg2⟩
    dsimp only at hs2 hb2 ⊢
    have HS2 : Is s2.data.toList t2 := ⟨hs2⟩
    have hl2 : s2.size = t2.length := by rw [← hs2, len_eq]
    have X3 := Lib.hid (X2.out.call hg2 hb2)
    have G3 := Lib.hid (grown_trans G2.out hg2)
    clear hs2 hb2 hg2 HWD q0 q1 q2 qf0 qf1 qf2 qlt X1 X2 G1 G2
    obtain ⟨⟨q0, q1, q2⟩, ⟨qf0, qf1, qf2⟩, qlt⟩ := X3.out.facts
    have X4 := Lib.hid (X3.out.putE 1 (.int .u32 (n2 : Int)))
    have G4 := Lib.hid (grown_new (q := re) hre2 1 (.int .u32 (n2 : Int)) G3.out)
    have HEV : Is (evQ l bad) ⟨1, n2, [], t2, b2⟩ := ⟨by rw [HE2.out, HW2.out]; rfl⟩
    obtain ⟨⟨r0, r1, r2⟩, ⟨rf0, rf1, rf2⟩, rlt⟩ := X3.out.rfacts
    go_wp2
    clear q0 q1 q2 qf0 qf1 qf2 qlt r0 r1 r2 rf0 rf1 rf2 rlt
    have X9 := X4.out
    obtain ⟨MR, MB⟩ := X9.rfin (.int .i64 1) (.int .u32 (n2 : Int)) (.string ⟨#[]⟩)
    have G9 := grown_new (q := w.heap.size) (Nat.le_refl _) 2 (.string ⟨#[]⟩) (grown_new (q := w.heap.size) (Nat.le_refl _) 1 (.int .u32 (n2 : Int)) (grown_new (q := w.heap.size) (Nat.le_refl _) 0 (.int .i64 1) G4.out))
    refine bodyPost_ret (Bx.res_c Tryz.results35 rfl (ev_load MR)) rfl ?_
    rw [HEV.out]
    exact ⟨⟨#[]⟩, rfl, rfl, s2, HS2.out, MB, G9⟩
  by_cases c3 : k = 3
  · subst c3
    obtain ⟨n2, t2, b2, hw2⟩ : ∃ n2 t2 b2, wordQ t1 b1 = (n2, t2, b2) := ⟨_, _, _, rfl⟩
    have hwl := wordQ_len t1 b1
    rw [hw2] at hwl
    simp only at hwl
    have HW2 : Is (wordQ t1 b1) (n2, t2, b2) := ⟨hw2⟩
    have hwd := wordr_any b s1 b1 (by omega) _ X2.out.hb
    rw [HS1.out, hw2] at hwd
    have HWD := Lib.hid hwd
    clear hwd hw2 r0 r1 r2 rf0 rf1 rf2 rlt
    go_wp2_with fail
    refine HWD.out.mono ?_
    rintro e w2 ⟨rfl, s2, hs2, hb2, hg2⟩
    dsimp only at hs2 hb2 ⊢
    have HS2 : Is s2.data.toList t2 := ⟨hs2⟩
    have hl2 : s2.size = t2.length := by rw [← hs2, len_eq]
    have X3 := Lib.hid (X2.out.call hg2 hb2)
    have G3 := Lib.hid (grown_trans G2.out hg2)
    clear hs2 hb2 hg2 HWD q0 q1 q2 qf0 qf1 qf2 qlt X1 X2 G1 G2
    obtain ⟨⟨q0, q1, q2⟩, ⟨qf0, qf1, qf2⟩, qlt⟩ := X3.out.facts
    have X4 := Lib.hid (X3.out.putE 1 (.int .u32 (n2 : Int)))
    have G4 := Lib.hid (grown_new (q := re) hre2 1 (.int .u32 (n2 : Int)) G3.out)
    have HEV : Is (evQ l bad) ⟨3, n2, [], t2, b2⟩ := ⟨by rw [HE2.out, HW2.out]; rfl⟩
    obtain ⟨⟨r0, r1, r2⟩, ⟨rf0, rf1, rf2⟩, rlt⟩ := X3.out.rfacts
    go_wp2
    clear q0 q1 q2 qf0 qf1 qf2 qlt r0 r1 r2 rf0 rf1 rf2 rlt
    have X9 := X4.out
    obtain ⟨MR, MB⟩ := X9.rfin (.int .i64 3) (.int .u32 (n2 : Int)) (.string ⟨#[]⟩)
    have G9 := grown_new (q := w.heap.size) (Nat.le_refl _) 2 (.string ⟨#[]⟩) (grown_new (q := w.heap.size) (Nat.le_refl _) 1 (.int .u32 (n2 : Int)) (grown_new (q := w.heap.size) (Nat.le_refl _) 0 (.int .i64 3) G4.out))
    refine bodyPost_ret (Bx.res_c Tryz.results35 rfl (ev_load MR)) rfl ?_
    rw [HEV.out]
    exact ⟨⟨#[]⟩, rfl, rfl, s2, HS2.out, MB, G9⟩
  by_cases c6 : k = 6
  · subst c6
    obtain ⟨n2, t2, b2, hw2⟩ : ∃ n2 t2 b2, wordQ t1 b1 = (n2, t2, b2) := ⟨_, _, _, rfl⟩
    have hwl := wordQ_len t1 b1
    rw [hw2] at hwl
    simp only at hwl
    have HW2 : Is (wordQ t1 b1) (n2, t2, b2) := ⟨hw2⟩
    have hwd := wordr_any b s1 b1 (by omega) _ X2.out.hb
    rw [HS1.out, hw2] at hwd
    have HWD := Lib.hid hwd
    clear hwd hw2 r0 r1 r2 rf0 rf1 rf2 rlt
    go_wp2_with fail
    refine HWD.out.mono ?_
    rintro e w2 ⟨rfl, s2, hs2, hb2, hg2⟩
    dsimp only at hs2 hb2 ⊢
    have HS2 : Is s2.data.toList t2 := ⟨hs2⟩
    have hl2 : s2.size = t2.length := by rw [← hs2, len_eq]
    have X3 := Lib.hid (X2.out.call hg2 hb2)
    have G3 := Lib.hid (grown_trans G2.out hg2)
    clear hs2 hb2 hg2 HWD q0 q1 q2 qf0 qf1 qf2 qlt X1 X2 G1 G2
    obtain ⟨⟨q0, q1, q2⟩, ⟨qf0, qf1, qf2⟩, qlt⟩ := X3.out.facts
    have X4 := Lib.hid (X3.out.putE 1 (.int .u32 (n2 : Int)))
    have G4 := Lib.hid (grown_new (q := re) hre2 1 (.int .u32 (n2 : Int)) G3.out)
    have HEV : Is (evQ l bad) ⟨6, n2, [], t2, b2⟩ := ⟨by rw [HE2.out, HW2.out]; rfl⟩
    obtain ⟨⟨r0, r1, r2⟩, ⟨rf0, rf1, rf2⟩, rlt⟩ := X3.out.rfacts
    go_wp2
    clear q0 q1 q2 qf0 qf1 qf2 qlt r0 r1 r2 rf0 rf1 rf2 rlt
    have X9 := X4.out
    obtain ⟨MR, MB⟩ := X9.rfin (.int .i64 6) (.int .u32 (n2 : Int)) (.string ⟨#[]⟩)
    have G9 := grown_new (q := w.heap.size) (Nat.le_refl _) 2 (.string ⟨#[]⟩) (grown_new (q := w.heap.size) (Nat.le_refl _) 1 (.int .u32 (n2 : Int)) (grown_new (q := w.heap.size) (Nat.le_refl _) 0 (.int .i64 6) G4.out))
    refine bodyPost_ret (Bx.res_c Tryz.results35 rfl (ev_load MR)) rfl ?_
    rw [HEV.out]
    exact ⟨⟨#[]⟩, rfl, rfl, s2, HS2.out, MB, G9⟩
  by_cases c4 : k = 4
  · subst c4
    obtain ⟨n2, t2, b2, hw2⟩ : ∃ n2 t2 b2, wordQ t1 b1 = (n2, t2, b2) := ⟨_, _, _, rfl⟩
    have hwl := wordQ_len t1 b1
    rw [hw2] at hwl
    simp only at hwl
    have HW2 : Is (wordQ t1 b1) (n2, t2, b2) := ⟨hw2⟩
    have hwd := wordr_any b s1 b1 (by omega) _ X2.out.hb
    rw [HS1.out, hw2] at hwd
    have HWD := Lib.hid hwd
    clear hwd hw2 r0 r1 r2 rf0 rf1 rf2 rlt
    go_wp2_with fail
    refine HWD.out.mono ?_
    rintro e w2 ⟨rfl, s2, hs2, hb2, hg2⟩
    dsimp only at hs2 hb2 ⊢
    have HS2 : Is s2.data.toList t2 := ⟨hs2⟩
    have hl2 : s2.size = t2.length := by rw [← hs2, len_eq]
    have X3 := Lib.hid (X2.out.call hg2 hb2)
    have G3 := Lib.hid (grown_trans G2.out hg2)
    clear hs2 hb2 hg2 HWD q0 q1 q2 qf0 qf1 qf2 qlt X1 X2 G1 G2
    obtain ⟨⟨q0, q1, q2⟩, ⟨qf0, qf1, qf2⟩, qlt⟩ := X3.out.facts
    have X4 := Lib.hid (X3.out.putE 1 (.int .u32 (n2 : Int)))
    have G4 := Lib.hid (grown_new (q := re) hre2 1 (.int .u32 (n2 : Int)) G3.out)
    obtain ⟨m4, t3, b3, hm4⟩ : ∃ m4 t3 b3, numR t2 b2 = (m4, t3, b3) := ⟨_, _, _, rfl⟩
    have hml := numR_len t2 b2
    have hmt := numR_lt t2 b2
    rw [hm4] at hml hmt
    simp only at hml hmt
    obtain ⟨d4, t4, b4, hd4⟩ : ∃ d4 t4 b4, bytesR m4 t3 b3 = (d4, t4, b4) := ⟨_, _, _, rfl⟩
    have HD4 : Is (dataR t2 b2) (d4, t4, b4) := ⟨by unfold dataR; rw [hm4]; exact hd4⟩
    have hwd := number_ref_any b s2 b2 (by omega) _ X4.out.hb
    rw [HS2.out, hm4] at hwd
    have HWD := Lib.hid hwd
    have HBD := Lib.hid hd4
    clear hwd hm4 hd4
    go_wp2_with fail
    refine HWD.out.mono ?_
    rintro e w5 ⟨rfl, s5, hs5, hb5, hg5⟩
    dsimp only at hs5 hb5 ⊢
    have HS5 : Is s5.data.toList t3 := ⟨hs5⟩
    have hl5 : s5.size = t3.length := by rw [← hs5, len_eq]
    have X5 := Lib.hid (X4.out.call hg5 hb5)
    have G5 := Lib.hid (grown_trans G4.out hg5)
    clear hs5 hb5 hg5 HWD q0 q1 q2 qf0 qf1 qf2 qlt
    have hby := bytes_ref_any b s5 b3 (m4 : Int) (by omega) (by omega) (by omega) _ X5.out.hb
    rw [HS5.out, Int.toNat_natCast, HBD.out] at hby
    have HBY := Lib.hid hby
    clear hby
    go_wp2_with fail
    refine HBY.out.mono ?_
    rintro e w6 ⟨ds, rfl, hds, s6, hs6, hb6, hg6⟩
    dsimp only at hds hs6 hb6 ⊢
    have HDS : Is ds.data.toList d4 := ⟨hds⟩
    have HS6 : Is s6.data.toList t4 := ⟨hs6⟩
    have X6 := Lib.hid (X5.out.call hg6 hb6)
    have G6 := Lib.hid (grown_trans G5.out hg6)
    clear hds hs6 hb6 hg6 HBY X5 G5
    obtain ⟨⟨q0, q1, q2⟩, ⟨qf0, qf1, qf2⟩, qlt⟩ := X6.out.facts
    obtain ⟨⟨r0, r1, r2⟩, ⟨rf0, rf1, rf2⟩, rlt⟩ := X6.out.rfacts
    have HEV : Is (evQ l bad) ⟨4, n2, d4, t4, b4⟩ := ⟨by rw [HE2.out, HW2.out]; simp only; rw [HD4.out]; rfl⟩
    go_wp2
    clear q0 q1 q2 qf0 qf1 qf2 qlt r0 r1 r2 rf0 rf1 rf2 rlt
    have X9 := X6.out.putE 2 (.string ds)
    obtain ⟨MR, MB⟩ := X9.rfin (.int .i64 4) (.int .u32 (n2 : Int)) (.string ds)
    have G9 := grown_new (q := w.heap.size) (Nat.le_refl _) 2 (.string ds) (grown_new (q := w.heap.size) (Nat.le_refl _) 1 (.int .u32 (n2 : Int)) (grown_new (q := w.heap.size) (Nat.le_refl _) 0 (.int .i64 4) (grown_new (q := re) hre2 2 (.string ds) G6.out)))
    refine bodyPost_ret (Bx.res_c Tryz.results35 rfl (ev_load MR)) rfl ?_
    rw [HEV.out]
    exact ⟨ds, rfl, HDS.out, s6, HS6.out, MB, G9⟩
  by_cases c5 : k = 5
  · subst c5
    clear r0 r1 r2 rf0 rf1 rf2 rlt
    obtain ⟨m4, t3, b3, hm4⟩ : ∃ m4 t3 b3, numR t1 b1 = (m4, t3, b3) := ⟨_, _, _, rfl⟩
    have hml := numR_len t1 b1
    have hmt := numR_lt t1 b1
    rw [hm4] at hml hmt
    simp only at hml hmt
    obtain ⟨d4, t4, b4, hd4⟩ : ∃ d4 t4 b4, bytesR m4 t3 b3 = (d4, t4, b4) := ⟨_, _, _, rfl⟩
    have HD4 : Is (dataR t1 b1) (d4, t4, b4) := ⟨by unfold dataR; rw [hm4]; exact hd4⟩
    have hwd := number_ref_any b s1 b1 (by omega) _ X2.out.hb
    rw [HS1.out, hm4] at hwd
    have HWD := Lib.hid hwd
    have HBD := Lib.hid hd4
    clear hwd hm4 hd4
    go_wp2_with fail
    refine HWD.out.mono ?_
    rintro e w5 ⟨rfl, s5, hs5, hb5, hg5⟩
    dsimp only at hs5 hb5 ⊢
    have HS5 : Is s5.data.toList t3 := ⟨hs5⟩
    have hl5 : s5.size = t3.length := by rw [← hs5, len_eq]
    have X5 := Lib.hid (X2.out.call hg5 hb5)
    have G5 := Lib.hid (grown_trans G2.out hg5)
    clear hs5 hb5 hg5 HWD q0 q1 q2 qf0 qf1 qf2 qlt
    have hby := bytes_ref_any b s5 b3 (m4 : Int) (by omega) (by omega) (by omega) _ X5.out.hb
    rw [HS5.out, Int.toNat_natCast, HBD.out] at hby
    have HBY := Lib.hid hby
    clear hby
    go_wp2_with fail
    refine HBY.out.mono ?_
    rintro e w6 ⟨ds, rfl, hds, s6, hs6, hb6, hg6⟩
    dsimp only at hds hs6 hb6 ⊢
    have HDS : Is ds.data.toList d4 := ⟨hds⟩
    have HS6 : Is s6.data.toList t4 := ⟨hs6⟩
    have X6 := Lib.hid (X5.out.call hg6 hb6)
    have G6 := Lib.hid (grown_trans G5.out hg6)
    clear hds hs6 hb6 hg6 HBY X5 G5
    obtain ⟨⟨q0, q1, q2⟩, ⟨qf0, qf1, qf2⟩, qlt⟩ := X6.out.facts
    obtain ⟨⟨r0, r1, r2⟩, ⟨rf0, rf1, rf2⟩, rlt⟩ := X6.out.rfacts
    have HEV : Is (evQ l bad) ⟨5, 0, d4, t4, b4⟩ := ⟨by rw [HE2.out]; rw [HD4.out]; rfl⟩
    go_wp2
    clear q0 q1 q2 qf0 qf1 qf2 qlt r0 r1 r2 rf0 rf1 rf2 rlt
    have X9 := X6.out.putE 2 (.string ds)
    obtain ⟨MR, MB⟩ := X9.rfin (.int .i64 5) (.int .u32 0) (.string ds)
    have G9 := grown_new (q := w.heap.size) (Nat.le_refl _) 2 (.string ds) (grown_new (q := w.heap.size) (Nat.le_refl _) 1 (.int .u32 0) (grown_new (q := w.heap.size) (Nat.le_refl _) 0 (.int .i64 5) (grown_new (q := re) hre2 2 (.string ds) G6.out)))
    refine bodyPost_ret (Bx.res_c Tryz.results35 rfl (ev_load MR)) rfl ?_
    rw [HEV.out]
    exact ⟨ds, rfl, HDS.out, s6, HS6.out, MB, G9⟩
  have HEV : Is (evQ l bad) ⟨k, 0, [], t1, b1⟩ := ⟨by rw [HE2.out, if_neg (by omega), if_neg c4, if_neg c5]⟩
  have i1 : ((k : Int) == 1) = false := by simp; omega
  have i3 : ((k : Int) == 3) = false := by simp; omega
  have i6 : ((k : Int) == 6) = false := by simp; omega
  have i4 : ((k : Int) == 4) = false := by simp; omega
  have i5 : ((k : Int) == 5) = false := by simp; omega
  have kw : IntKind.i64.wrap (k : Int) = (k : Int) := IntWalk.i64_in _ (by omega)
  go_wp2
  clear q0 q1 q2 qf0 qf1 qf2 qlt r0 r1 r2 rf0 rf1 rf2 rlt
  have X9 := X2.out
  obtain ⟨MR, MB⟩ := X9.rfin (.int .i64 (k : Int)) (.int .u32 0) (.string ⟨#[]⟩)
  have G9 := grown_new (q := w.heap.size) (Nat.le_refl _) 2 (.string ⟨#[]⟩) (grown_new (q := w.heap.size) (Nat.le_refl _) 1 (.int .u32 0) (grown_new (q := w.heap.size) (Nat.le_refl _) 0 (.int .i64 (k : Int)) G2.out))
  refine bodyPost_ret (Bx.res_c Tryz.results35 rfl (ev_load MR)) rfl ?_
  rw [HEV.out]
  exact ⟨⟨#[]⟩, rfl, rfl, s1, HS1.out, MB, G9⟩
end Enc
end Go.Proofs.YtdacgdokbfcgdaaGreat
