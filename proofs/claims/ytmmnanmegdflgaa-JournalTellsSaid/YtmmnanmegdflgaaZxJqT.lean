/-
  Contracts: light, the law JournalTells (chapter 42).
-/
import Derived.Test.YtmmnanmegdflgaaZ22
set_option linter.unusedVariables false
set_option linter.unusedSimpArgs false
set_option maxRecDepth 100000
namespace Go.Proofs.Ytmmnanmegdflgaa
open Go.RowKit Go.BigFrame Go.Sort Go.Lib
namespace Jn
open Ad Adm Law39 Lg Lgc Strs
/-- The names at the front are short. -/
def shortN (r : Reg) : Nat → Bool
  | 0 => true
  | k + 1 => shortN r k && (match r.gs[k]? with | some p => decide (p.nm.size ≤ 100) | none => true)
def lightB (r : Reg) : Bool := shortN r (min r.gs.length 40) && (decide (r.hs.length ≤ 20) && decide (r.gs.length ≤ 20))
theorem shortN_no {r : Reg} {k : Nat} (h : shortN r k = false) : ∀ j, k ≤ j → shortN r j = false := by
  intro j hj
  induction hj with
  | refl => exact h
  | step _ ih => unfold shortN; rw [ih]; rfl
theorem shortN_step {r : Reg} {k : Nat} {p : Pl} (h : shortN r k = true) (hp : r.gs[k]? = some p) (hs : p.nm.size ≤ 100) : shortN r (k + 1) = true := by
  unfold shortN; rw [h, hp]; simp [hs]
theorem shortN_long {r : Reg} {k : Nat} {p : Pl} (hk : k < r.gs.length) (h40 : k < 40) (hp : r.gs[k]? = some p) (hs : ¬ p.nm.size ≤ 100) : lightB r = false := by
  have : shortN r (k + 1) = false := by unfold shortN; rw [hp]; simp [hs]
  unfold lightB
  rw [shortN_no this _ (by omega)]; rfl
theorem shortN_at {r : Reg} : ∀ {k : Nat}, shortN r k = true → ∀ j p, j < k → r.gs[j]? = some p → p.nm.size ≤ 100
  | 0, _, _, _, h, _ => by omega
  | k + 1, h, j, p, hj, hp => by
    unfold shortN at h
    rw [Bool.and_eq_true] at h
    by_cases e : j = k
    · subst e; rw [hp] at h; simpa using h.2
    · exact shortN_at h.1 j p (by omega) hp
theorem light_yes {r : Reg} (h : lightB r = true) : r.hs.length ≤ 20 ∧ r.gs.length ≤ 20 ∧ ∀ p ∈ r.gs, p.nm.size ≤ 100 := by
  unfold lightB at h
  simp only [Bool.and_eq_true, decide_eq_true_eq] at h
  refine ⟨h.2.1, h.2.2, fun p hp => ?_⟩
  obtain ⟨j, hj, rfl⟩ := List.mem_iff_getElem.1 hp
  exact shortN_at h.1 j _ (by omega) (List.getElem?_eq_getElem hj)
theorem light_end {r : Reg} {k : Nat} (h : shortN r k = true) (hk : r.gs.length ≤ k ∨ 40 ≤ k) (hk2 : k ≤ r.gs.length) : lightB r = (decide (r.hs.length ≤ 20) && decide (r.gs.length ≤ 20)) := by
  unfold lightB
  have : shortN r (min r.gs.length 40) = true := by
    cases e : shortN r (min r.gs.length 40)
    · rw [shortN_no e k (by omega)] at h; cases h
    · rfl
  rw [this]; rfl
set_option maxHeartbeats 2000000 in
theorem light_any (HA : Option Addr) (hn hc : Nat) (GA : Option Addr) (gn gc : Nat) (r : Reg) (w : World) (h : InR w HA hn hc GA gn gc r) :
    Calls Try.prog 20 #[.agg #[.slice HA hn hc, .slice GA gn gc]] w fun e w' => e = .returned (.bool (lightB r)) ∧ Held w w' := by
  have HR := Lib.hid h.reg
  have HHL : Is r.hs.length hn := ⟨h.reg.hs.1⟩
  have HGL : Is r.gs.length gn := ⟨h.reg.gs.1⟩
  have hh := h.lh
  have hg := h.lg
  unfold maxLen at hh hg
  clear h
  have M0 := Lib.hid ((Mem.start w).alloc' (b := w.heap.size) rfl #[.slice HA hn hc, .slice GA gn gc] 37)
  obtain ⟨⟨a0, a1⟩, ⟨af0, af1⟩, alt⟩ := M0.out.box2 0 rfl
  go_enter Try.func20, Try.ntmps20
  go_wp2
  clear a0 a1 af0 af1 alt
  go_loopw [3] (fun i wr => ∃ k : Nat, i = .int .i64 k ∧ k ≤ gn ∧ k ≤ 40 ∧ Hid (shortN r k = true) ∧ Mem w wr [.box w.heap.size #[.slice HA hn hc, .slice GA gn gc] 37]) (fun i _ => gn - (intOf i).toNat)
  case atStart => exact ⟨0, rfl, Nat.zero_le _, by omega, Lib.hid rfl, M0.out⟩
  case round =>
    obtain ⟨k, rfl, hk, hk2, HS, hM⟩ := hrel
    have M2 := Lib.hid hM
    clear hM M0
    obtain ⟨⟨a0, a1⟩, ⟨af0, af1⟩, alt⟩ := M2.out.box2 0 rfl
    by_cases hlt : (k : Int) < gn
    · by_cases h40 : (k : Int) < 40
      · obtain ⟨b, off, nm, dr, dl, dc, dg, pa, pb, rfl, lb, hx, x0, x1, x2, x3, x4, x5, x6⟩ := plAt HR.out.gs M2.out.held (k := k) (by omega)
        have k0 : ¬ (k : Int) < 0 := by omega
        have HX := Lib.hid hx
        clear hx x1 x2 x3 x4 x5 x6
        by_cases hnm : (100 : Int) < nm.size
        · have HB : Is (lightB r) false := ⟨shortN_long (by rw [HGL.out]; omega) (by omega) HX.out (by simp only; omega)⟩
          go_wp2
          go_ret
          exact ⟨by rw [HB.out]; rfl, M2.out.held⟩
        · have HS2 := Lib.hid (shortN_step HS.out HX.out (by simp only; omega))
          go_wp2
          clear a0 a1 af0 af1 alt x0
          go_roundw
          case rel => exact ⟨k + 1, by go_num, by omega, by omega, HS2, M2.out⟩
          case measure => (simp [intOf]) <;> omega
      · have HB : Is (lightB r) (decide ((hn : Int) ≤ 20) && decide ((gn : Int) ≤ 20)) := ⟨by rw [light_end HS.out (.inr (by omega)) (by rw [HGL.out]; exact hk), HHL.out, HGL.out]; congr 1 <;> (rw [decide_eq_decide]; omega)⟩
        have hd : decide ((gn : Int) ≤ 20) = false := by simp; omega
        rw [hd, Bool.and_false] at HB
        have hd2 : decide ((k : Int) < 40) = false := by simp; omega
        by_cases hh20 : (hn : Int) ≤ 20
        · go_wp2
          go_ret
          exact ⟨by rw [HB.out]; rfl, M2.out.held⟩
        · have hd3 : decide ((hn : Int) ≤ 20) = false := by simp; omega
          go_wp2
          go_ret
          exact ⟨by rw [HB.out]; rfl, M2.out.held⟩
    · have HB : Is (lightB r) (decide ((hn : Int) ≤ 20) && decide ((gn : Int) ≤ 20)) := ⟨by rw [light_end HS.out (.inl (by rw [HGL.out]; omega)) (by rw [HGL.out]; exact hk), HHL.out, HGL.out]; congr 1 <;> (rw [decide_eq_decide]; omega)⟩
      have hd4 : decide ((k : Int) < gn) = false := by simp; omega
      have hd5 : decide (k < gn) = false := by simp; omega
      by_cases hh20 : (hn : Int) ≤ 20
      · rw [decide_eq_true hh20, Bool.true_and] at HB
        go_wp2
        go_ret
        exact ⟨by rw [HB.out]; rfl, M2.out.held⟩
      · have hd3 : decide ((hn : Int) ≤ 20) = false := by simp; omega
        rw [hd3, Bool.false_and] at HB
        go_wp2
        go_ret
        exact ⟨by rw [HB.out]; rfl, M2.out.held⟩
end Jn
end Go.Proofs.Ytmmnanmegdflgaa
