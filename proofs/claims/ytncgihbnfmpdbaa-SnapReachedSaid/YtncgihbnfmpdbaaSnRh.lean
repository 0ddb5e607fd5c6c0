/-
  Contracts: put of the reference, walked (chapter 41).
-/
import Derived.Test.YtncgihbnfmpdbaaSnRg
import Derived.Deep.DeepCutAuto
set_option linter.unusedVariables false
set_option linter.unusedSimpArgs false
set_option maxRecDepth 100000
namespace Go.Proofs.Ytncgihbnfmpdbaa
open Go.RowKit Go.BigFrame
namespace Sn
theorem putR_done {ds : List Dl} {b : Int} {s : ByteArray} {is : Bool} {o1 : List Dl} (h : putTo ds b s is ds.length = (o1, true)) : putR ds b s is = o1 := by unfold putR; rw [h]; rfl
theorem putR_not {ds : List Dl} {b : Int} {s : ByteArray} {is : Bool} {o1 : List Dl} (h : putTo ds b s is ds.length = (o1, false)) : putR ds b s is = o1 ++ [⟨b, s⟩] := by unfold putR; rw [h]; rfl
set_option maxHeartbeats 4000000 in
theorem rput_any (A : Option Addr) (n cap : Nat) (ds : List Dl) (b : Int) (s : ByteArray) (is : Bool) (w : World) (h : Sl 2 dlC w A n ds) (hn : (n : Int) ≤ 100000) :
    Calls Try.prog 48 #[.slice A n cap, .int .i64 b, .string s, .bool is] w (Mks 38 2 dlC (putR ds b s is) w) := by
  have HS := Lib.hid h
  have M0 := Lib.hid ((Mem.start w).nilRow (e := 38) (s := 2) (f := dlC))
  have HDL : Hid (ds.length = n) := h.1
  clear h
  go_enter Try.func48, Try.ntmps48
  go_wp2
  go_loopw [9, 10, 11] (fun v q i wr => ∃ (k ln : Nat) (B : Option Addr) (cp : Nat) (o1 : List Dl) (o2 : Bool), i = .int .i64 k ∧ k ≤ n ∧ q = .bool o2 ∧ v = .slice B ln cp ∧ putTo ds b s is k = (o1, o2) ∧ o1.length = ln ∧ ln ≤ 2 * k ∧ Mem w wr [.row 38 2 dlC w.heap.size (.slice B ln cp) o1]) (fun _ _ i _ => n - (intOf i).toNat)
  case atStart => exact ⟨0, 0, none, 0, [], !is, rfl, Nat.zero_le _, rfl, rfl, rfl, rfl, Nat.le_refl _, M0.out⟩
  case round =>
    obtain ⟨k, ln, B, cp, o1, o2, rfl, hk, rfl, rfl, hput, hln, hlk, hM⟩ := hrel
    have M1 := Lib.hid hM
    have HP := Lib.hid hput
    have HN := Lib.hid hln
    clear hM hput hln M0
    by_cases hlt : (k : Int) < n
    · obtain ⟨b2, o2', d, rfl, lb2, hd, y0, y1⟩ := dl_at HS.out M1.out.held (k := k) (by omega)
      have HX := Lib.hid (putTo_next (b := b) (s := s) (is := is) hd)
      rw [HP.out] at HX
      unfold putStep at HX
      simp only at HX
      have hlb := lt_of_cell y0
      simp only at hlb
      have HDK := Lib.hid hd
      clear hd
      cases o2
      · by_cases c1 : b ≤ d.b
        · by_cases c2 : d.b = b
          · have q1 : (d.b != b) = false := by simp [c2]
            have HS2 : Hid (putTo ds b s is (k + 1) = (o1 ++ [⟨b, s⟩], true)) := show _ = _ by rw [HX.out]; simp [c2]
            clear HX c2
            go_wp2_with (first | (at_builtin; refine Mem.wp_app (M1.out.skip _) 0 rfl rfl _ _ _ rfl _ 24 Try.underlying34 SlcDl.info rfl (by decide) dlC_len dlC_one ⟨b, s⟩ ⟨wr.heap.size, 0, none⟩ 1 rfl rfl (cells_new _ (by simp) _ _) ln HN.out (by omega) (by decide) ?_; intro g5 cp5 w5 M4; have M5 := Lib.hid M4; clear M4; have z := dl_at HS.out M5.out.held (k := k) (by omega); obtain ⟨b9, o9, d9, e9, lb9, hd9, z0, z1⟩ := z; injection e9 with e9; injection e9 with e9 e10; subst e9 e10; obtain rfl : d = d9 := by { rw [HDK.out] at hd9; injection hd9 }; have hlb9 := lt_of_cell z0; simp only at hlb9; clear hd9) | fail)
            go_roundw
            case rel => exact ⟨k + 1, ln + 1, _, _, o1 ++ [(⟨b, s⟩ : Dl)], true, by go_num, by omega, rfl, rfl, HS2.out, by rw [List.length_append, HN.out]; rfl, by omega, M5.out⟩
            case measure => (simp [intOf]) <;> omega
          · have q1 : (d.b != b) = true := by simp [c2]
            have HS2 : Hid (putTo ds b s is (k + 1) = (o1 ++ [⟨b, s⟩] ++ [d], true)) := show _ = _ by rw [HX.out]; simp [c1, c2]
            clear HX c2
            go_wp2_with (first | (at_builtin; refine Mem.wp_app (M5.out.skip _) 0 rfl rfl _ _ _ rfl _ 24 Try.underlying34 SlcDl.info rfl (by decide) dlC_len dlC_one d ⟨w5.heap.size, 0, none⟩ 1 rfl rfl (cells_new _ (by simp) _ _) (ln + 1) (by rw [List.length_append, HN.out]; rfl) (by omega) (by decide) ?_; intro g7 cp7 w7 M4; have M7 := Lib.hid M4; clear M4) | (at_builtin; refine Mem.wp_app (M1.out.skip _) 0 rfl rfl _ _ _ rfl _ 24 Try.underlying34 SlcDl.info rfl (by decide) dlC_len dlC_one ⟨b, s⟩ ⟨wr.heap.size, 0, none⟩ 1 rfl rfl (cells_new _ (by simp) _ _) ln HN.out (by omega) (by decide) ?_; intro g5 cp5 w5 M4; have M5 := Lib.hid M4; clear M4; have z := dl_at HS.out M5.out.held (k := k) (by omega); obtain ⟨b9, o9, d9, e9, lb9, hd9, z0, z1⟩ := z; injection e9 with e9; injection e9 with e9 e10; subst e9 e10; obtain rfl : d = d9 := by { rw [HDK.out] at hd9; injection hd9 }; have hlb9 := lt_of_cell z0; simp only at hlb9; clear hd9))
            go_roundw
            case rel => exact ⟨k + 1, ln + 1 + 1, _, _, o1 ++ [(⟨b, s⟩ : Dl)] ++ [d], true, by go_num, by omega, rfl, rfl, HS2.out, by rw [List.length_append, List.length_append, HN.out]; rfl, by omega, M7.out⟩
            case measure => (simp [intOf]) <;> omega
        · have c2 : ¬ d.b = b := by omega
          have q1 : (d.b != b) = true := by simp [c2]
          have HS2 : Hid (putTo ds b s is (k + 1) = (o1 ++ [d], false)) := show _ = _ by rw [HX.out]; simp [c1, c2]
          clear HX c2
          go_wp2_with (first | (at_builtin; refine Mem.wp_app (M1.out.skip _) 0 rfl rfl _ _ _ rfl _ 24 Try.underlying34 SlcDl.info rfl (by decide) dlC_len dlC_one d ⟨wr.heap.size, 0, none⟩ 1 rfl rfl (cells_new _ (by simp) _ _) ln HN.out (by omega) (by decide) ?_; intro g5 cp5 w5 M4; have M5 := Lib.hid M4; clear M4) | fail)
          go_roundw
          case rel => exact ⟨k + 1, ln + 1, _, _, o1 ++ [d], false, by go_num, by omega, rfl, rfl, HS2.out, by rw [List.length_append, HN.out]; rfl, by omega, M5.out⟩
          case measure => (simp [intOf]) <;> omega
      · by_cases c2 : d.b = b
        · have q1 : (d.b != b) = false := by simp [c2]
          have HS2 : Hid (putTo ds b s is (k + 1) = (o1, true)) := show _ = _ by rw [HX.out]; simp [c2]
          clear HX c2
          go_wp2
          go_roundw
          case rel => exact ⟨k + 1, ln, B, cp, o1, true, by go_num, by omega, rfl, rfl, HS2.out, HN.out, by omega, M1.out⟩
          case measure => (simp [intOf]) <;> omega
        · have q1 : (d.b != b) = true := by simp [c2]
          have HS2 : Hid (putTo ds b s is (k + 1) = (o1 ++ [d], true)) := show _ = _ by rw [HX.out]; simp [c2]
          clear HX c2
          go_wp2_with (first | (at_builtin; refine Mem.wp_app (M1.out.skip _) 0 rfl rfl _ _ _ rfl _ 24 Try.underlying34 SlcDl.info rfl (by decide) dlC_len dlC_one d ⟨wr.heap.size, 0, none⟩ 1 rfl rfl (cells_new _ (by simp) _ _) ln HN.out (by omega) (by decide) ?_; intro g5 cp5 w5 M4; have M5 := Lib.hid M4; clear M4) | fail)
          go_roundw
          case rel => exact ⟨k + 1, ln + 1, _, _, o1 ++ [d], true, by go_num, by omega, rfl, rfl, HS2.out, by rw [List.length_append, HN.out]; rfl, by omega, M5.out⟩
          case measure => (simp [intOf]) <;> omega
    · obtain rfl : n = k := by omega
      rw [← HDL.out] at HP
      cases o2
      · have HE := Lib.hid (putR_not HP.out)
        go_wp2_with (at_builtin; refine Mem.wp_app (M1.out.skip _) 0 rfl rfl _ _ _ rfl _ 24 Try.underlying34 SlcDl.info rfl (by decide) dlC_len dlC_one ⟨b, s⟩ ⟨wr.heap.size, 0, none⟩ 1 rfl rfl (cells_new _ (by simp) _ _) ln HN.out (by omega) (by decide) ?_; intro g4 cp4 w4 M4; have M5 := Lib.hid M4; clear M4)
        go_ret
        rw [HE.out]
        exact Mks.mk (M5.out.row 0 rfl) M5.out.held
      · have HE := Lib.hid (putR_done HP.out)
        go_wp2
        go_ret
        rw [HE.out]
        exact Mks.mk (M1.out.row 0 rfl) M1.out.held
end Sn
end Go.Proofs.Ytncgihbnfmpdbaa
