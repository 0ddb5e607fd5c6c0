/-
  Contracts: vmfleetplan.Segments, with a bound on the last position (chapter 24).
-/
import Derived.Test.YthpjbffhdaaibaaGreatZ11
set_option linter.unusedVariables false
set_option linter.unusedSimpArgs false
set_option maxRecDepth 100000
namespace Go.Proofs.YthpjbffhdaaibaaGreat
open Go.RowKit Go.BigFrame Go.Sort Go.Lib
namespace St
open Enc Uv Lg Lgc Strs
/-- A call hands back valid segments that follow each other. -/
def SegsTo2 (B a n : Nat) (w : World) (e : Ending) (w' : World) : Prop := ∃ A cap R, e = .returned (.slice A n cap) ∧ R.length = n ∧ Ch a (gs R) ∧ pos a (gs R) n ≤ a + 6 * n ∧ Own 25 3 segC w.heap.size w' (.slice A n cap) R ∧ Sgs B w' R ∧ Held w w'
set_option maxHeartbeats 2000000 in
theorem segments2_any (A : Option Addr) (n cap : Nat) (L : List Int) (a : Nat) (B : Nat) (w : World) (hB : B ≤ w.heap.size) (h : Sl 1 inN w A n L) (hL : ∀ x ∈ L, -9223372036854775808 ≤ x ∧ x ≤ 9223372036854775807) (hn : n ≤ 20) (ha : (a : Int) ≤ 1099511627776) :
    Calls Tryz.prog 32 #[.slice A n cap, .int .u64 (a : Int)] w (SegsTo2 B a n w) := by
  have HS := Lib.hid h
  have HL := Lib.hid hL
  have HBB := Lib.hid hB
  clear h hL hB
  have M0 := Lib.hid ((Mem.start w).nilRow (e := 25) (s := 3) (f := segC))
  go_enter Tryz.func32, Tryz.ntmps32
  go_wp2
  go_loopw [1, 5, 6] (fun p v i wr => ∃ (q x : Nat) (R : List SR), p = .int .u64 (x : Int) ∧ i = .int .i64 (q : Int) ∧ q ≤ n ∧ R.length = q ∧ Ch a (gs R) ∧ x = pos a (gs R) q ∧ x ≤ a + 6 * q ∧ Sgs B wr R ∧ Mem w wr [.row 25 3 segC w.heap.size v R]) (fun _ _ i _ => n - (RowKit.intOf i).toNat)
  case atStart => exact ⟨0, a, [], rfl, rfl, Nat.zero_le _, rfl, Ch.nil a, rfl, by omega, Sgs.nil _ _, M0.out⟩
  case round =>
    obtain ⟨q, x, R, rfl, rfl, hq, hRq, hch, hx, hxl, hs, hM⟩ := hrel
    obtain ⟨A2, cap2, rfl, hcap2, _⟩ := (hM.row 0 rfl).shape
    have HRQ : Is R.length q := ⟨hRq⟩
    have HCH := Lib.hid hch
    have HX : Is x (pos a (gs R) q) := ⟨hx⟩
    have SS := Lib.hid hs
    have M := Lib.hid hM
    rw [hRq] at M hcap2 ⊢
    clear hch hx hs hM hRq M0
    by_cases hlt : q < n
    · obtain ⟨b, off, z, rfl, hb, hz, hc⟩ := in_at HS.out M.out.held (k := q) hlt
      have hzb := HL.out z (List.mem_of_getElem? hz)
      have z2 : (q : Int) < n := by omega
      have z3 : (0 : Int) ≤ q := by omega
      have HG := Lib.hid fun w => segment_any z x hzb.1 hzb.2 (by omega) w
      have hne : ¬ b = wr.heap.size := by have := M.out.held.le; omega
      clear hz hb hzb
      go_wp2_with fail
      refine (HG.out _).mono ?_
      rintro e w2 ⟨kn, es, A3, n3, cap3, rfl, hok, hin, hkl, hsg, h2⟩
      have M2 := Lib.hid ((M.out.keep h2).alloc #[.int .u64 x, .int .u64 kn, .slice A3 n3 cap3] 25)
      have M3 := Lib.hid (M2.out.skip (.cells #[.int .u64 x, .int .u64 kn, .slice A3 n3 cap3] 25))
      have hh : Held w2 _ := ((Held.refl w2).alloc (.cells #[.int .u64 x, .int .u64 kn, .slice A3 n3 cap3] 25)).alloc (.cells #[.int .u64 x, .int .u64 kn, .slice A3 n3 cap3] 25)
      have S3 := Lib.hid ((SS.out.held h2).held hh)
      have G3 := Lib.hid ((hsg B).held hh)
      obtain ⟨⟨c0, c1, c2⟩, _, hl⟩ := M2.out.box3 1 rfl
      have HOK := Lib.hid hok
      have HIN := Lib.hid hin
      clear hh hsg h2 hok hin hc
      go_wp2_with (at_builtin; refine Mem.wp_appC M3.out 0 rfl rfl _ _ _ rfl _ 40 Tryz.underlying26 info_seg rfl (by decide) segC_len segC_one ⟨x, kn, A3, n3, cap3, es⟩ ⟨w2.heap.size + 1, 0, none⟩ 1 rfl rfl (cells_new _ (by simp) _ _) q HRQ.out (by omega) (by decide) ?_; intro g4 cp4 w4 M4' k4; have M4 := Lib.hid M4'; have K4 := Lib.hid k4; obtain ⟨⟨e0, e1, e2⟩, _, hle⟩ := M4'.box3 1 rfl; clear M4' k4)
      go_roundw
      case rel =>
        have kk := K4.out 70 B (by decide) HBB.out
        have hgl : (gs R).length = q := by rw [gs_len]; exact HRQ.out
        refine ⟨q + 1, kn, R ++ [(⟨x, kn, A3, n3, cap3, es⟩ : SR)], rfl, by go_num, by omega, by rw [List.length_append, HRQ.out]; rfl, ?_, ?_, by omega, (S3.out.chg kk).snoc (G3.out.chg kk), M4.out.take 1⟩
        · unfold gs at hgl ⊢
          rw [List.map_append]
          have := HCH.out
          unfold gs at this
          exact this.snoc (by rw [hgl]; exact HX.out) HOK.out HIN.out
        · unfold gs at hgl ⊢
          rw [List.map_append]
          exact (pos_last (g := ⟨x, kn, es⟩) hgl).symm
      case measure => (simp [RowKit.intOf]) <;> omega
    · obtain rfl : q = n := by omega
      have z2 : ¬ (q : Int) < q := by omega
      go_wp2
      go_ret
      exact ⟨A2, cap2, R, rfl, HRQ.out, HCH.out, (by rw [← HX.out]; exact hxl), M.out.row 0 rfl, SS.out, M.out.held⟩
end St
end Go.Proofs.YthpjbffhdaaibaaGreat
