/-
  Contracts: merge (chapter 41), of the program.
-/
import Derived.Test.YtncgihbnfmpdbaaSnV
set_option linter.unusedVariables false
set_option linter.unusedSimpArgs false
set_option maxRecDepth 100000
namespace Go.Proofs.Ytncgihbnfmpdbaa
open Go.RowKit Go.BigFrame
namespace Sn
theorem drop_at {c : List Dl} {i : Nat} {d : Dl} (h : c[i]? = some d) : c.drop i = d :: c.drop (i + 1) := by
  obtain ⟨hk, rfl⟩ := List.getElem?_eq_some_iff.1 h
  exact List.drop_eq_getElem_cons hk
theorem merge_nil (c : List Dl) : merge c [] = c := by
  cases c with
  | nil => rw [merge]
  | cons d c => rw [merge]; simp
theorem merge_c0 {c p : List Dl} {i j : Nat} {d : Dl} (hd : c[i]? = some d) (h : p.length ≤ j) : merge (c.drop i) (p.drop j) = d :: merge (c.drop (i + 1)) (p.drop j) := by
  rw [List.drop_of_length_le h, merge_nil, merge_nil, drop_at hd]
theorem merge_c1 {c p : List Dl} {i j : Nat} {d e : Dl} (hd : c[i]? = some d) (he : p[j]? = some e) (h : d.b < e.b) : merge (c.drop i) (p.drop j) = d :: merge (c.drop (i + 1)) (p.drop j) := by
  rw [drop_at hd, drop_at he, merge, if_pos h]
theorem merge_p0 {c p : List Dl} {i j : Nat} {e : Dl} (he : p[j]? = some e) (h : c.length ≤ i) : merge (c.drop i) (p.drop j) = e :: merge (c.drop i) (p.drop (j + 1)) := by
  rw [List.drop_of_length_le h, merge, merge, drop_at he]
theorem merge_p1 {c p : List Dl} {i j : Nat} {d e : Dl} (hd : c[i]? = some d) (he : p[j]? = some e) (h : e.b < d.b) : merge (c.drop i) (p.drop j) = e :: merge (c.drop i) (p.drop (j + 1)) := by
  rw [drop_at hd, drop_at he, merge, if_neg (by omega), if_pos h]
theorem merge_b {c p : List Dl} {i j : Nat} {d e : Dl} (hd : c[i]? = some d) (he : p[j]? = some e) (h : d.b = e.b) : merge (c.drop i) (p.drop j) = d :: merge (c.drop (i + 1)) (p.drop (j + 1)) := by
  rw [drop_at hd, drop_at he, merge, if_neg (by omega), if_neg (by omega)]
theorem merge_end {c p : List Dl} {i j : Nat} (h : c.length ≤ i) (h2 : p.length ≤ j) : merge (c.drop i) (p.drop j) = [] := by
  rw [List.drop_of_length_le h, List.drop_of_length_le h2, merge]
theorem merge_go {c p M X : List Dl} {i j : Nat} {d : Dl} (h : merge c p = M ++ merge (c.drop i) (p.drop j)) (hd : merge (c.drop i) (p.drop j) = d :: X) : merge c p = (M ++ [d]) ++ X := by rw [h, hd]; simp
set_option maxHeartbeats 4000000 in
theorem merge_any (A : Option Addr) (nc cap : Nat) (A2 : Option Addr) (np cap2 : Nat) (c p : List Dl) (w : World) (hc : Sl 2 dlC w A nc c) (hp : Sl 2 dlC w A2 np p) (h1 : (nc : Int) ≤ 1000000) (h2 : (np : Int) ≤ 1000000) :
    Calls Try.prog 43 #[.slice A nc cap, .slice A2 np cap2] w (Mks 38 2 dlC (merge c p) w) := by
  have HC := Lib.hid hc
  have HP := Lib.hid hp
  have HL := Lib.hid (And.intro hc.1 hp.1)
  have M0 := Lib.hid ((Mem.start w).nilRow (e := 38) (s := 2) (f := dlC))
  clear hc hp
  go_enter Try.func43, Try.ntmps43
  go_wp2
  go_loopw [5, 6, 7] (fun v x y wr => ∃ (i j n : Nat) (B : Option Addr) (cp : Nat) (M : List Dl), x = .int .i64 i ∧ y = .int .i64 j ∧ i ≤ nc ∧ j ≤ np ∧ v = .slice B n cp ∧ M.length = n ∧ n ≤ i + j ∧ merge c p = M ++ merge (c.drop i) (p.drop j) ∧ Mem w wr [.row 38 2 dlC w.heap.size (.slice B n cp) M]) (fun _ x y _ => (nc - (intOf x).toNat) + (np - (intOf y).toNat))
  case atStart => exact ⟨0, 0, 0, none, 0, [], rfl, rfl, Nat.zero_le _, Nat.zero_le _, rfl, rfl, Nat.zero_le _, rfl, M0.out⟩
  case round =>
    obtain ⟨i, j, n, B, cp, M, rfl, rfl, hi, hj, rfl, hn, hnij, hinv, hM⟩ := hrel
    have M1 := Lib.hid hM
    have HI := Lib.hid hinv
    have HN := Lib.hid hn
    clear hM hinv M0 hn
    by_cases g1 : (i : Int) < nc
    · obtain ⟨b1, o1, d, rfl, lb1, hd, x0, x1⟩ := dl_at HC.out M1.out.held (k := i) (by omega)
      have HD := Lib.hid hd
      have hlb1 := lt_of_cell x0
      simp only at hlb1
      clear hd
      by_cases g2 : (j : Int) < np
      · obtain ⟨b2, o2, e, rfl, lb2, he, y0, y1⟩ := dl_at HP.out M1.out.held (k := j) (by omega)
        have HE := Lib.hid he
        have hlb2 := lt_of_cell y0
        simp only at hlb2
        clear he
        have q1 : ((j : Int) == (np : Int)) = false := by simp; omega
        have q2 : ((i : Int) == (nc : Int)) = false := by simp; omega
        have q3 : decide ((i : Int) < nc) = true := by simp; omega
        by_cases g3 : d.b < e.b
        · have HS := Lib.hid (merge_go HI.out (merge_c1 HD.out HE.out g3))
          have q4 : decide (d.b < e.b) = true := by simp [g3]
          go_wp2_with fail
          go_big_quiet (fail)
          obtain ⟨w2, hw2⟩ : ∃ q, q = wr.drewN nq := ⟨_, rfl⟩
          have M2 := Lib.hid (M1.out.keep ((Held.refl wr).drewN nq))
          have k2 : Held wr w2 := by rw [hw2]; exact (Held.refl wr).drewN nq
          rw [← hw2] at M2 ⊢
          clear hw2
          replace x0 := k2.cell x0
          replace x1 := k2.cell x1
          replace y0 := k2.cell y0
          replace y1 := k2.cell y1
          clear k2
          have l1 := lt_of_cell x0
          simp only at l1
          have l2 := lt_of_cell y0
          simp only at l2
          go_wp2_with (at_builtin; refine Mem.wp_app (M2.out.skip _) 0 rfl rfl _ _ _ rfl _ 24 Try.underlying34 SlcDl.info rfl (by decide) dlC_len dlC_one d ⟨w2.heap.size, 0, none⟩ 1 rfl rfl (cells_new _ (by simp) _ _) n HN.out (by omega) (by decide) ?_; intro g4 cp4 w4 M4; have M5 := Lib.hid M4; clear M4)
          go_roundw
          case rel => exact ⟨i + 1, j, n + 1, _, _, M ++ [d], by go_num, by go_num, by omega, by omega, rfl, by rw [List.length_append, HN.out]; rfl, by omega, HS.out, M5.out⟩
          case measure => (simp [intOf]) <;> omega
        · have q4 : decide (d.b < e.b) = false := by simp; omega
          by_cases g4 : e.b < d.b
          · have HS := Lib.hid (merge_go HI.out (merge_p1 HD.out HE.out g4))
            have q5 : decide (e.b < d.b) = true := by simp [g4]
            go_wp2_with fail
            go_big_quiet (fail)
            obtain ⟨w2, hw2⟩ : ∃ q, q = wr.drewN nq := ⟨_, rfl⟩
            have M2 := Lib.hid (M1.out.keep ((Held.refl wr).drewN nq))
            have k2 : Held wr w2 := by rw [hw2]; exact (Held.refl wr).drewN nq
            rw [← hw2] at M2 ⊢
            clear hw2
            replace x0 := k2.cell x0
            replace x1 := k2.cell x1
            replace y0 := k2.cell y0
            replace y1 := k2.cell y1
            clear k2
            have l1 := lt_of_cell x0
            simp only at l1
            have l2 := lt_of_cell y0
            simp only at l2
            go_wp2_with fail
            go_big_quiet (fail)
            obtain ⟨w3, hw3⟩ : ∃ q, q = w2.drewN nq := ⟨_, rfl⟩
            have M3 := Lib.hid (M2.out.keep ((Held.refl w2).drewN nq))
            have k3 : Held w2 w3 := by rw [hw3]; exact (Held.refl w2).drewN nq
            rw [← hw3] at M3 ⊢
            clear hw3
            replace x0 := k3.cell x0
            replace x1 := k3.cell x1
            replace y0 := k3.cell y0
            replace y1 := k3.cell y1
            clear k3
            have l3 := lt_of_cell x0
            simp only at l3
            have l4 := lt_of_cell y0
            simp only at l4
            go_wp2_with (at_builtin; refine Mem.wp_app (M3.out.skip _) 0 rfl rfl _ _ _ rfl _ 24 Try.underlying34 SlcDl.info rfl (by decide) dlC_len dlC_one e ⟨w3.heap.size, 0, none⟩ 1 rfl rfl (cells_new _ (by simp) _ _) n HN.out (by omega) (by decide) ?_; intro g4 cp4 w4 M4; have M5 := Lib.hid M4; clear M4)
            go_roundw
            case rel => exact ⟨i, j + 1, n + 1, _, _, M ++ [e], by go_num, by go_num, by omega, by omega, rfl, by rw [List.length_append, HN.out]; rfl, by omega, HS.out, M5.out⟩
            case measure => (simp [intOf]) <;> omega
          · have HS := Lib.hid (merge_go HI.out (merge_b HD.out HE.out (by omega)))
            have q5 : decide (e.b < d.b) = false := by simp; omega
            go_wp2_with fail
            go_big_quiet (fail)
            obtain ⟨w2, hw2⟩ : ∃ q, q = wr.drewN nq := ⟨_, rfl⟩
            have M2 := Lib.hid (M1.out.keep ((Held.refl wr).drewN nq))
            have k2 : Held wr w2 := by rw [hw2]; exact (Held.refl wr).drewN nq
            rw [← hw2] at M2 ⊢
            clear hw2
            replace x0 := k2.cell x0
            replace x1 := k2.cell x1
            replace y0 := k2.cell y0
            replace y1 := k2.cell y1
            clear k2
            have l1 := lt_of_cell x0
            simp only at l1
            have l2 := lt_of_cell y0
            simp only at l2
            go_wp2_with fail
            go_big_quiet (fail)
            obtain ⟨w3, hw3⟩ : ∃ q, q = w2.drewN nq := ⟨_, rfl⟩
            have M3 := Lib.hid (M2.out.keep ((Held.refl w2).drewN nq))
            have k3 : Held w2 w3 := by rw [hw3]; exact (Held.refl w2).drewN nq
            rw [← hw3] at M3 ⊢
            clear hw3
            replace x0 := k3.cell x0
            replace x1 := k3.cell x1
            replace y0 := k3.cell y0
            replace y1 := k3.cell y1
            clear k3
            have l3 := lt_of_cell x0
            simp only at l3
            have l4 := lt_of_cell y0
            simp only at l4
            go_wp2_with (at_builtin; refine Mem.wp_app (M3.out.skip _) 0 rfl rfl _ _ _ rfl _ 24 Try.underlying34 SlcDl.info rfl (by decide) dlC_len dlC_one d ⟨w3.heap.size, 0, none⟩ 1 rfl rfl (cells_new _ (by simp) _ _) n HN.out (by omega) (by decide) ?_; intro g4 cp4 w4 M4; have M5 := Lib.hid M4; clear M4)
            go_roundw
            case rel => exact ⟨i + 1, j + 1, n + 1, _, _, M ++ [d], by go_num, by go_num, by omega, by omega, rfl, by rw [List.length_append, HN.out]; rfl, by omega, HS.out, M5.out⟩
            case measure => (simp [intOf]) <;> omega
      · have HS := Lib.hid (merge_go HI.out (merge_c0 HD.out (by have := HL.out.2; omega)))
        obtain rfl : np = j := by omega
        have q1 : ((np : Int) == (np : Int)) = true := by simp
        go_wp2_with fail
        go_big_quiet (fail)
        obtain ⟨w2, hw2⟩ : ∃ q, q = wr.drewN nq := ⟨_, rfl⟩
        have M2 := Lib.hid (M1.out.keep ((Held.refl wr).drewN nq))
        have k2 : Held wr w2 := by rw [hw2]; exact (Held.refl wr).drewN nq
        rw [← hw2] at M2 ⊢
        clear hw2
        replace x0 := k2.cell x0
        replace x1 := k2.cell x1
        clear k2
        have l1 := lt_of_cell x0
        simp only at l1
        go_wp2_with (at_builtin; refine Mem.wp_app (M2.out.skip _) 0 rfl rfl _ _ _ rfl _ 24 Try.underlying34 SlcDl.info rfl (by decide) dlC_len dlC_one d ⟨w2.heap.size, 0, none⟩ 1 rfl rfl (cells_new _ (by simp) _ _) n HN.out (by omega) (by decide) ?_; intro g4 cp4 w4 M4; have M5 := Lib.hid M4; clear M4)
        go_roundw
        case rel => exact ⟨i + 1, np, n + 1, _, _, M ++ [d], by go_num, by go_num, by omega, by omega, rfl, by rw [List.length_append, HN.out]; rfl, by omega, HS.out, M5.out⟩
        case measure => (simp [intOf]) <;> omega
    · obtain rfl : nc = i := by omega
      by_cases g2 : (j : Int) < np
      · obtain ⟨b2, o2, e, rfl, lb2, he, y0, y1⟩ := dl_at HP.out M1.out.held (k := j) (by omega)
        have HE := Lib.hid he
        have hlb2 := lt_of_cell y0
        simp only at hlb2
        clear he
        have q1 : ((j : Int) == (np : Int)) = false := by simp; omega
        have q3 : decide ((nc : Int) < nc) = false := by simp
        have q2 : ((nc : Int) == (nc : Int)) = true := by simp
        have HS := Lib.hid (merge_go HI.out (merge_p0 HE.out (by have := HL.out.1; omega)))
        go_wp2_with fail
        go_big_quiet (fail)
        obtain ⟨w2, hw2⟩ : ∃ q, q = wr.drewN nq := ⟨_, rfl⟩
        have M2 := Lib.hid (M1.out.keep ((Held.refl wr).drewN nq))
        have k2 : Held wr w2 := by rw [hw2]; exact (Held.refl wr).drewN nq
        rw [← hw2] at M2 ⊢
        clear hw2
        replace y0 := k2.cell y0
        replace y1 := k2.cell y1
        clear k2
        have l2 := lt_of_cell y0
        simp only at l2
        go_wp2_with fail
        go_big_quiet (fail)
        obtain ⟨w3, hw3⟩ : ∃ q, q = w2.drewN nq := ⟨_, rfl⟩
        have M3 := Lib.hid (M2.out.keep ((Held.refl w2).drewN nq))
        have k3 : Held w2 w3 := by rw [hw3]; exact (Held.refl w2).drewN nq
        rw [← hw3] at M3 ⊢
        clear hw3
        replace y0 := k3.cell y0
        replace y1 := k3.cell y1
        clear k3
        have l4 := lt_of_cell y0
        simp only at l4
        go_wp2_with (at_builtin; refine Mem.wp_app (M3.out.skip _) 0 rfl rfl _ _ _ rfl _ 24 Try.underlying34 SlcDl.info rfl (by decide) dlC_len dlC_one e ⟨w3.heap.size, 0, none⟩ 1 rfl rfl (cells_new _ (by simp) _ _) n HN.out (by omega) (by decide) ?_; intro g4 cp4 w4 M4; have M5 := Lib.hid M4; clear M4)
        go_roundw
        case rel => exact ⟨nc, j + 1, n + 1, _, _, M ++ [e], by go_num, by go_num, by omega, by omega, rfl, by rw [List.length_append, HN.out]; rfl, by omega, HS.out, M5.out⟩
        case measure => (simp [intOf]) <;> omega
      · obtain rfl : np = j := by omega
        have HS : Hid (merge c p = M) := show _ = _ by rw [HI.out, merge_end (by have := HL.out.1; omega) (by have := HL.out.2; omega), List.append_nil]
        rw [← HS.out] at M1
        go_wp2
        go_ret
        exact Mks.mk (M1.out.row 0 rfl) M1.out.held
end Sn
end Go.Proofs.Ytncgihbnfmpdbaa
