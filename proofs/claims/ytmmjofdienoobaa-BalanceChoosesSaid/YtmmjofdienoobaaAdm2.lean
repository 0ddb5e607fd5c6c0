/-
  Contracts: Admit and Fits of admission and of its reference compute the plain functions of Ad.
-/
import Derived.Test.YtmmjofdienoobaaAdm
namespace Go.Proofs.Ytmmjofdienoobaa
open Go.RowKit
set_option linter.unusedVariables false
set_option maxRecDepth 100000
namespace Adm
open Ad
theorem boxes {w w1 : World} {m c : Int} {up : Bool} {r l cc g : Int} (h : Held ((w.alloc (.cells #[.int .i64 m, .int .i64 c, .bool up] 47)).alloc (.cells #[.int .i64 r, .int .i64 l, .int .i64 cc, .int .i64 g] 43)) w1) :
    w1.cell? ⟨w.heap.size, 0, none⟩ = some (.int .i64 m) ∧ w1.cell? ⟨w.heap.size, 1, none⟩ = some (.int .i64 c) ∧ w1.cell? ⟨w.heap.size, 2, none⟩ = some (.bool up) ∧
    w1.cell? ⟨w.heap.size + 1, 0, none⟩ = some (.int .i64 r) ∧ w1.cell? ⟨w.heap.size + 1, 1, none⟩ = some (.int .i64 l) ∧ w1.cell? ⟨w.heap.size + 1, 2, none⟩ = some (.int .i64 cc) ∧ w1.cell? ⟨w.heap.size + 1, 3, none⟩ = some (.int .i64 g) :=
  ⟨h.cell (by simp), h.cell (by simp), h.cell (by simp), h.cell (by simp), h.cell (by simp), h.cell (by simp), h.cell (by simp)⟩
theorem two (w : World) (a b : Obj) : Held w ((w.alloc a).alloc b) := ((Held.refl w).alloc a).alloc b
theorem ret_errno {a b : Int} (h : a = b) : Ending.returned (.int .i64 a) = .returned (.int .i64 b) := by rw [h]
theorem clash_at (L : List Dem) (k : Nat) (d : Dem) (g : Int) (h : L[k]? = some d) : clash (L.take (k + 1)) g = (clash (L.take k) g || decide (d.g = g)) := by
  obtain ⟨hk, rfl⟩ := List.getElem?_eq_some_iff.1 h
  exact clash_snoc L k hk g
theorem clash_mem {L : List Dem} {k : Nat} {g : Int} (h : clash (L.take k) g = true) : clash L g = true := by
  unfold clash at *
  rw [List.any_eq_true] at *
  obtain ⟨x, hx, hp⟩ := h
  exact ⟨x, List.mem_of_mem_take hx, hp⟩
theorem admit_any (m c : Int) (up : Bool) (A : Option Addr) (len cap : Nat) (L : List Dem) (r l cc g : Int) (w : World) (hd : Ds w A len L) (hlen : (len : Int) ≤ 100) :
    Calls Try.prog 18 #[.agg #[.int .i64 m, .int .i64 c, .bool up], .slice A len cap, .agg #[.int .i64 r, .int .i64 l, .int .i64 cc, .int .i64 g]] w
      fun e w' => e = .returned (.int .i64 (admit m c up L ⟨r, l, cc, g⟩)) ∧ Held w w' := by
  have HL := Lib.hid hd.1
  have HD := Lib.hid hd
  have TW := Lib.hid (two w (.cells #[.int .i64 m, .int .i64 c, .bool up] 47) (.cells #[.int .i64 r, .int .i64 l, .int .i64 cc, .int .i64 g] 43))
  clear hd
  have HF := fun (e : Int) (h : admit m c up L ⟨r, l, cc, g⟩ = e) => Lib.hid h
  cases hv : valid m c L
  · have H := HF 3900 (by unfold admit; rw [hv]; rfl)
    clear HF
    go_enter Try.func18, Try.ntmps18
    go_wp2_with (go_at_call 37; refine (valid_any _ _ _ _ _ _ L _ (HD.out.held TW.out) hlen).mono ?_; rintro e w1 ⟨rfl, h1⟩)
    go_ret
    exact ⟨by rw [H.out]; rfl, TW.out.step h1⟩
  cases hvd : vd ⟨r, l, cc, g⟩
  · have H := HF 3900 (by unfold admit; rw [hv, hvd]; rfl)
    clear HF
    go_enter Try.func18, Try.ntmps18
    go_wp2_with (first | (go_at_call 37; refine (valid_any _ _ _ _ _ _ L _ (HD.out.held TW.out) hlen).mono ?_; rintro e w1 ⟨rfl, h1⟩; obtain ⟨c0, c1, c2, d0, d1, d2, d3⟩ := boxes h1) | (go_at_call 27; refine (vd_any _ _ _ _ _).mono ?_; rintro e w2 ⟨rfl, h2⟩))
    go_ret
    exact ⟨by rw [H.out]; rfl, (TW.out.step h1).step h2⟩
  have ht : (valid m c L && vd ⟨r, l, cc, g⟩) = true := by rw [hv, hvd]; rfl
  have HF1 := fun (e : Int) (h : (if up = false then 3904 else if freeM m c L < r then 3901 else if freeC m c L < cc then 3902 else if g ≠ 0 ∧ clash L g = true then 3903 else (0 : Int)) = e) =>
    HF e (by unfold admit; rw [ht, if_neg (by simp)]; exact h)
  clear HF ht
  cases hup : up
  · subst hup
    have H := HF1 3904 (by rw [if_pos rfl])
    clear HF1
    go_enter Try.func18, Try.ntmps18
    go_wp2_with (first | (go_at_call 37; refine (valid_any _ _ _ _ _ _ L _ (HD.out.held TW.out) hlen).mono ?_; rintro e w1 ⟨rfl, h1⟩; obtain ⟨c0, c1, c2, d0, d1, d2, d3⟩ := boxes h1) | (go_at_call 27; refine (vd_any _ _ _ _ _).mono ?_; rintro e w2 ⟨rfl, h2⟩; obtain ⟨e0, e1, e2, f0, f1, f2, f3⟩ := boxes (h1.step h2)))
    go_ret
    exact ⟨by rw [H.out]; rfl, (TW.out.step h1).step h2⟩
  · subst hup
    have HF2 := fun (e : Int) (h : (if freeM m c L < r then 3901 else if freeC m c L < cc then 3902 else if g ≠ 0 ∧ clash L g = true then 3903 else (0 : Int)) = e) => HF1 e (by rw [if_neg (by simp)]; exact h)
    clear HF1
    obtain ⟨fm, hfm⟩ : ∃ x, freeM m c L = x := ⟨_, rfl⟩
    obtain ⟨fc, hfc⟩ : ∃ x, freeC m c L = x := ⟨_, rfl⟩
    rw [hfm, hfc] at HF2
    by_cases hm : fm < r
    · have H := HF2 3901 (by rw [if_pos hm])
      clear HF2
      go_enter Try.func18, Try.ntmps18
      go_wp2_with (first | (go_at_call 37; refine (valid_any _ _ _ _ _ _ L _ (HD.out.held TW.out) hlen).mono ?_; rintro e w1 ⟨rfl, h1⟩; obtain ⟨c0, c1, c2, d0, d1, d2, d3⟩ := boxes h1) | (go_at_call 27; refine (vd_any _ _ _ _ _).mono ?_; rintro e w2 ⟨rfl, h2⟩; obtain ⟨e0, e1, e2, f0, f1, f2, f3⟩ := boxes (h1.step h2)) | (go_at_call 17; refine (free_any _ _ _ _ _ _ L _ (HD.out.held ((TW.out.step h1).step h2)) hlen).mono ?_; rintro e w3 ⟨rfl, h3⟩; obtain ⟨g0, g1, g2, k0, k1, k2, k3⟩ := boxes ((h1.step h2).step h3)))
      go_ret
      exact ⟨by rw [H.out]; rfl, ((TW.out.step h1).step h2).step h3⟩
    by_cases hc : fc < cc
    · have H := HF2 3902 (by rw [if_neg hm, if_pos hc])
      clear HF2
      go_enter Try.func18, Try.ntmps18
      go_wp2_with (first | (go_at_call 37; refine (valid_any _ _ _ _ _ _ L _ (HD.out.held TW.out) hlen).mono ?_; rintro e w1 ⟨rfl, h1⟩; obtain ⟨c0, c1, c2, d0, d1, d2, d3⟩ := boxes h1) | (go_at_call 27; refine (vd_any _ _ _ _ _).mono ?_; rintro e w2 ⟨rfl, h2⟩; obtain ⟨e0, e1, e2, f0, f1, f2, f3⟩ := boxes (h1.step h2)) | (go_at_call 17; refine (free_any _ _ _ _ _ _ L _ (HD.out.held ((TW.out.step h1).step h2)) hlen).mono ?_; rintro e w3 ⟨rfl, h3⟩; obtain ⟨g0, g1, g2, k0, k1, k2, k3⟩ := boxes ((h1.step h2).step h3)))
      go_ret
      exact ⟨by rw [H.out]; rfl, ((TW.out.step h1).step h2).step h3⟩
    by_cases hg : g = 0
    · have H := HF2 0 (by rw [if_neg hm, if_neg hc, if_neg (by simp [hg])])
      have hg' : (g != 0) = false := by simp [hg]
      clear HF2
      have HG := Lib.hid hg
      clear hg
      go_enter Try.func18, Try.ntmps18
      go_wp2_with (first | (go_at_call 37; refine (valid_any _ _ _ _ _ _ L _ (HD.out.held TW.out) hlen).mono ?_; rintro e w1 ⟨rfl, h1⟩; obtain ⟨c0, c1, c2, d0, d1, d2, d3⟩ := boxes h1) | (go_at_call 27; refine (vd_any _ _ _ _ _).mono ?_; rintro e w2 ⟨rfl, h2⟩; obtain ⟨e0, e1, e2, f0, f1, f2, f3⟩ := boxes (h1.step h2)) | (go_at_call 17; refine (free_any _ _ _ _ _ _ L _ (HD.out.held ((TW.out.step h1).step h2)) hlen).mono ?_; rintro e w3 ⟨rfl, h3⟩; obtain ⟨g0, g1, g2, k0, k1, k2, k3⟩ := boxes ((h1.step h2).step h3)))
      go_ret
      exact ⟨by rw [H.out]; rfl, ((TW.out.step h1).step h2).step h3⟩
    · have H := HF2 (if clash L g = true then 3903 else 0) (by rw [if_neg hm, if_neg hc]; by_cases hcl : clash L g = true <;> simp [hg, hcl])
      have hg' : (g != 0) = true := by simp [hg]
      clear HF2 hg
      go_enter Try.func18, Try.ntmps18
      go_wp2_with (first | (go_at_call 37; refine (valid_any _ _ _ _ _ _ L _ (HD.out.held TW.out) hlen).mono ?_; rintro e w1 ⟨rfl, h1⟩; obtain ⟨c0, c1, c2, d0, d1, d2, d3⟩ := boxes h1) | (go_at_call 27; refine (vd_any _ _ _ _ _).mono ?_; rintro e w2 ⟨rfl, h2⟩; obtain ⟨e0, e1, e2, f0, f1, f2, f3⟩ := boxes (h1.step h2)) | (go_at_call 17; refine (free_any _ _ _ _ _ _ L _ (HD.out.held ((TW.out.step h1).step h2)) hlen).mono ?_; rintro e w3 ⟨rfl, h3⟩; obtain ⟨g0, g1, g2, k0, k1, k2, k3⟩ := boxes ((h1.step h2).step h3)))
      have hw3 : Held w w3 := ((TW.out.step h1).step h2).step h3
      have HW3 := Lib.hid hw3
      have K3 := Lib.hid k3
      clear hw3 c0 c1 c2 d0 d1 d2 d3 e0 e1 e2 f0 f1 f2 f3 g0 g1 g2 k0 k1 k2 k3 h1 h2 h3
      go_loopw [42] (fun i wr => ∃ k : Nat, k ≤ len ∧ i = .int .i64 k ∧ clash (L.take k) g = false ∧ Held w3 wr) (fun i _ => len - (intOf i).toNat)
      case atStart => exact ⟨0, Nat.zero_le _, rfl, rfl, Held.refl _⟩
      case round =>
        obtain ⟨k, hk, rfl, hcl, hh⟩ := hrel
        have HCL := Lib.hid hcl
        clear hcl
        by_cases hlt : k < len
        · obtain ⟨b, off, xr, xl, xc, xg, rfl, hk?, q0, q1, q2, q3⟩ := HD.out.at_ (HW3.out.step hh) hlt
          have hs := clash_at L k _ g hk?
          rw [HCL.out, Bool.false_or] at hs
          have HS : Hid (clash (L.take (k + 1)) g = decide (xg = g)) := hs
          have kg : wr.cell? ⟨w.heap.size + 1, 3, none⟩ = some (.int .i64 g) := hh.cell K3.out
          have hsz : w.heap.size + 1 < wr.heap.size := lt_of_cell kg
          clear hk? hs
          by_cases hx : xg = g
          · have hx' : (xg == g) = true := by simp [hx]
            have H2 : Hid (clash L g = true) := clash_mem (k := k + 1) (by rw [HS.out]; simp [hx])
            clear hx
            go_wp2
            go_ret
            exact ⟨by rw [H.out, H2.out]; rfl, (HW3.out.step hh).alloc _⟩
          · have hx' : (xg == g) = false := by simp [hx]
            have H2 : Hid (clash (L.take (k + 1)) g = false) := show _ = _ by rw [HS.out]; simp [hx]
            clear hx
            go_wp2
            go_roundw
            case rel => exact ⟨k + 1, by omega, by go_num, H2.out, hh.alloc _⟩
            case measure => simp [intOf]; omega
        · obtain rfl : k = len := by omega
          have H2 : Hid (clash L g = false) := show _ = _ by rw [← HCL.out, ← HL.out, List.take_length]
          go_wp2
          go_ret
          exact ⟨by rw [H.out, H2.out]; rfl, HW3.out.step hh⟩
theorem admit_ref_any (m c : Int) (up : Bool) (A : Option Addr) (len cap : Nat) (L : List Dem) (r l cc g : Int) (w : World) (hd : Ds w A len L) (hlen : (len : Int) ≤ 100) :
    Calls Try.prog 61 #[.agg #[.int .i64 m, .int .i64 c, .bool up], .slice A len cap, .agg #[.int .i64 r, .int .i64 l, .int .i64 cc, .int .i64 g]] w
      fun e w' => e = .returned (.int .i64 (admit m c up L ⟨r, l, cc, g⟩)) ∧ Held w w' := by
  have HL := Lib.hid hd.1
  have HD := Lib.hid hd
  have TW := Lib.hid (two w (.cells #[.int .i64 m, .int .i64 c, .bool up] 47) (.cells #[.int .i64 r, .int .i64 l, .int .i64 cc, .int .i64 g] 43))
  clear hd
  have HF := fun (e : Int) (h : admit m c up L ⟨r, l, cc, g⟩ = e) => Lib.hid h
  have HV := Lib.hid (valid_eq m c L)
  cases hvh : vh m c
  · have H := HF 3900 (by unfold admit; rw [HV.out, hvh]; rfl)
    clear HF
    go_enter Try.func61, Try.ntmps61
    go_wp2_with (go_at_call 58; refine (vh_ref_any _ _ _ _).mono ?_; rintro e w1 ⟨rfl, h1⟩)
    go_ret
    exact ⟨by rw [H.out]; rfl, TW.out.step h1⟩
  cases hvd : vd ⟨r, l, cc, g⟩
  · have H := HF 3900 (by unfold admit; rw [hvd, Bool.and_false]; rfl)
    clear HF
    go_enter Try.func61, Try.ntmps61
    go_wp2_with (first | (go_at_call 58; refine (vh_ref_any _ _ _ _).mono ?_; rintro e w1 ⟨rfl, h1⟩; obtain ⟨c0, c1, c2, d0, d1, d2, d3⟩ := boxes h1) | (go_at_call 64; refine (vd_ref_any _ _ _ _ _).mono ?_; rintro e w2 ⟨rfl, h2⟩))
    go_ret
    exact ⟨by rw [H.out]; rfl, (TW.out.step h1).step h2⟩
  cases hds : (decide (L.length ≤ 16) && L.all vd)
  · have H := HF 3900 (by unfold admit; rw [HV.out, hvh, hds]; rfl)
    have HDS := Lib.hid hds
    clear HF hds
    go_enter Try.func61, Try.ntmps61
    go_wp2_with (first | (go_at_call 58; refine (vh_ref_any _ _ _ _).mono ?_; rintro e w1 ⟨rfl, h1⟩; obtain ⟨c0, c1, c2, d0, d1, d2, d3⟩ := boxes h1) | (go_at_call 64; refine (vd_ref_any _ _ _ _ _).mono ?_; rintro e w2 ⟨rfl, h2⟩; obtain ⟨e0, e1, e2, f0, f1, f2, f3⟩ := boxes (h1.step h2)) | (go_at_call 59; refine (demands_any _ _ _ L _ (HD.out.held ((TW.out.step h1).step h2)) hlen).mono ?_; rintro e w3 ⟨rfl, h3⟩; rw [HDS.out]))
    go_ret
    exact ⟨by rw [H.out]; rfl, ((TW.out.step h1).step h2).step h3⟩
  have ht : (valid m c L && vd ⟨r, l, cc, g⟩) = true := by rw [HV.out, hvh, hds, hvd]; rfl
  have HDS := Lib.hid hds
  clear hds
  have HF1 := fun (e : Int) (h : (if up = false then 3904 else if freeM m c L < r then 3901 else if freeC m c L < cc then 3902 else if g ≠ 0 ∧ clash L g = true then 3903 else (0 : Int)) = e) =>
    HF e (by unfold admit; rw [ht, if_neg (by simp)]; exact h)
  clear HF ht
  cases hup : up
  · subst hup
    have H := HF1 3904 (by rw [if_pos rfl])
    clear HF1
    go_enter Try.func61, Try.ntmps61
    go_wp2_with (first | (go_at_call 58; refine (vh_ref_any _ _ _ _).mono ?_; rintro e w1 ⟨rfl, h1⟩; obtain ⟨c0, c1, c2, d0, d1, d2, d3⟩ := boxes h1) | (go_at_call 64; refine (vd_ref_any _ _ _ _ _).mono ?_; rintro e w2 ⟨rfl, h2⟩; obtain ⟨e0, e1, e2, f0, f1, f2, f3⟩ := boxes (h1.step h2)) | (go_at_call 59; refine (demands_any _ _ _ L _ (HD.out.held ((TW.out.step h1).step h2)) hlen).mono ?_; rintro e w3 ⟨rfl, h3⟩; rw [HDS.out]; obtain ⟨g0, g1, g2, k0, k1, k2, k3⟩ := boxes ((h1.step h2).step h3)) | (go_at_call 60; refine (free_ref_any _ _ _ _ _ _ L _ (HD.out.held (((TW.out.step h1).step h2).step h3)) hlen).mono ?_; rintro e w4 ⟨rfl, h4⟩; obtain ⟨n0, n1, n2, p0, p1, p2, p3⟩ := boxes (((h1.step h2).step h3).step h4)))
    go_ret
    exact ⟨by rw [H.out]; rfl, ((TW.out.step h1).step h2).step h3⟩
  · subst hup
    have HF2 := fun (e : Int) (h : (if freeM m c L < r then 3901 else if freeC m c L < cc then 3902 else if g ≠ 0 ∧ clash L g = true then 3903 else (0 : Int)) = e) => HF1 e (by rw [if_neg (by simp)]; exact h)
    clear HF1
    obtain ⟨fm, hfm⟩ : ∃ x, freeM m c L = x := ⟨_, rfl⟩
    obtain ⟨fc, hfc⟩ : ∃ x, freeC m c L = x := ⟨_, rfl⟩
    rw [hfm, hfc] at HF2
    by_cases hm : fm < r
    · have H := HF2 3901 (by rw [if_pos hm])
      clear HF2
      go_enter Try.func61, Try.ntmps61
      go_wp2_with (first | (go_at_call 58; refine (vh_ref_any _ _ _ _).mono ?_; rintro e w1 ⟨rfl, h1⟩; obtain ⟨c0, c1, c2, d0, d1, d2, d3⟩ := boxes h1) | (go_at_call 64; refine (vd_ref_any _ _ _ _ _).mono ?_; rintro e w2 ⟨rfl, h2⟩; obtain ⟨e0, e1, e2, f0, f1, f2, f3⟩ := boxes (h1.step h2)) | (go_at_call 59; refine (demands_any _ _ _ L _ (HD.out.held ((TW.out.step h1).step h2)) hlen).mono ?_; rintro e w3 ⟨rfl, h3⟩; rw [HDS.out]; obtain ⟨g0, g1, g2, k0, k1, k2, k3⟩ := boxes ((h1.step h2).step h3)) | (go_at_call 60; refine (free_ref_any _ _ _ _ _ _ L _ (HD.out.held (((TW.out.step h1).step h2).step h3)) hlen).mono ?_; rintro e w4 ⟨rfl, h4⟩; obtain ⟨n0, n1, n2, p0, p1, p2, p3⟩ := boxes (((h1.step h2).step h3).step h4)))
      go_ret
      exact ⟨by rw [H.out]; rfl, (((TW.out.step h1).step h2).step h3).step h4⟩
    by_cases hc : fc < cc
    · have H := HF2 3902 (by rw [if_neg hm, if_pos hc])
      clear HF2
      go_enter Try.func61, Try.ntmps61
      go_wp2_with (first | (go_at_call 58; refine (vh_ref_any _ _ _ _).mono ?_; rintro e w1 ⟨rfl, h1⟩; obtain ⟨c0, c1, c2, d0, d1, d2, d3⟩ := boxes h1) | (go_at_call 64; refine (vd_ref_any _ _ _ _ _).mono ?_; rintro e w2 ⟨rfl, h2⟩; obtain ⟨e0, e1, e2, f0, f1, f2, f3⟩ := boxes (h1.step h2)) | (go_at_call 59; refine (demands_any _ _ _ L _ (HD.out.held ((TW.out.step h1).step h2)) hlen).mono ?_; rintro e w3 ⟨rfl, h3⟩; rw [HDS.out]; obtain ⟨g0, g1, g2, k0, k1, k2, k3⟩ := boxes ((h1.step h2).step h3)) | (go_at_call 60; refine (free_ref_any _ _ _ _ _ _ L _ (HD.out.held (((TW.out.step h1).step h2).step h3)) hlen).mono ?_; rintro e w4 ⟨rfl, h4⟩; obtain ⟨n0, n1, n2, p0, p1, p2, p3⟩ := boxes (((h1.step h2).step h3).step h4)))
      go_ret
      exact ⟨by rw [H.out]; rfl, (((TW.out.step h1).step h2).step h3).step h4⟩
    have H := HF2 (if g ≠ 0 ∧ clash L g = true then 3903 else 0) (by rw [if_neg hm, if_neg hc])
    clear HF2
    go_enter Try.func61, Try.ntmps61
    go_wp2_with (first | (go_at_call 58; refine (vh_ref_any _ _ _ _).mono ?_; rintro e w1 ⟨rfl, h1⟩; obtain ⟨c0, c1, c2, d0, d1, d2, d3⟩ := boxes h1) | (go_at_call 64; refine (vd_ref_any _ _ _ _ _).mono ?_; rintro e w2 ⟨rfl, h2⟩; obtain ⟨e0, e1, e2, f0, f1, f2, f3⟩ := boxes (h1.step h2)) | (go_at_call 59; refine (demands_any _ _ _ L _ (HD.out.held ((TW.out.step h1).step h2)) hlen).mono ?_; rintro e w3 ⟨rfl, h3⟩; rw [HDS.out]; obtain ⟨g0, g1, g2, k0, k1, k2, k3⟩ := boxes ((h1.step h2).step h3)) | (go_at_call 60; refine (free_ref_any _ _ _ _ _ _ L _ (HD.out.held (((TW.out.step h1).step h2).step h3)) hlen).mono ?_; rintro e w4 ⟨rfl, h4⟩; obtain ⟨n0, n1, n2, p0, p1, p2, p3⟩ := boxes (((h1.step h2).step h3).step h4)))
    have hw3 : Held w w4 := (((TW.out.step h1).step h2).step h3).step h4
    have HW3 := Lib.hid hw3
    have K3 := Lib.hid p3
    clear hw3 c0 c1 c2 d0 d1 d2 d3 e0 e1 e2 f0 f1 f2 f3 g0 g1 g2 k0 k1 k2 k3 h1 h2 h3 h4 n0 n1 n2 p0 p1 p2 p3
    go_loopw [9] (fun i wr => ∃ k : Nat, k ≤ len ∧ i = .int .i64 k ∧ ¬ (g ≠ 0 ∧ clash (L.take k) g = true) ∧ Held w4 wr) (fun i _ => len - (intOf i).toNat)
    case atStart => exact ⟨0, Nat.zero_le _, rfl, by simp [clash], Held.refl _⟩
    case round =>
      obtain ⟨k, hk, rfl, hcl, hh⟩ := hrel
      have HCL := Lib.hid hcl
      clear hcl
      by_cases hlt : k < len
      · obtain ⟨b, off, xr, xl, xc, xg, rfl, hk?, q0, q1, q2, q3⟩ := HD.out.at_ (HW3.out.step hh) hlt
        have HS : Hid (clash (L.take (k + 1)) g = (clash (L.take k) g || decide (xg = g))) := clash_at L k _ g hk?
        have kg : wr.cell? ⟨w.heap.size + 1, 3, none⟩ = some (.int .i64 g) := hh.cell K3.out
        clear hk?
        by_cases hg : g = 0
        · have hg' : (g != 0) = false := by simp [hg]
          have HG := Lib.hid hg
          clear hg
          go_wp2
          go_quiet (fail)
          go_wp2
          go_roundw
          case rel => exact ⟨k + 1, by omega, by go_num, fun h => h.1 HG.out, hh.drewN _⟩
          case measure => simp [intOf]; omega
        · have hg' : (g != 0) = true := by simp [hg]
          have HG := Lib.hid hg
          clear hg
          have hno : clash (L.take k) g = false := by
            cases h : clash (L.take k) g
            · rfl
            · exact absurd ⟨HG.out, h⟩ HCL.out
          have HN := Lib.hid hno
          clear hno
          by_cases hx : xg = g
          · have hx' : (xg == g) = true := by simp [hx]
            have H2 : Hid (g ≠ 0 ∧ clash L g = true) := ⟨HG.out, clash_mem (k := k + 1) (by rw [HS.out]; simp [hx])⟩
            clear hx
            go_wp2
            go_quiet (fail)
            go_wp2
            go_ret
            exact ⟨by rw [H.out, if_pos H2.out]; rfl, (HW3.out.step hh).drewN _⟩
          · have hx' : (xg == g) = false := by simp [hx]
            have H2 : Hid (clash (L.take (k + 1)) g = false) := show _ = _ by rw [HS.out, HN.out]; simp [hx]
            clear hx
            go_wp2
            go_quiet (fail)
            go_wp2
            go_roundw
            case rel => exact ⟨k + 1, by omega, by go_num, fun h => by rw [H2.out] at h; simp at h, hh.drewN _⟩
            case measure => simp [intOf]; omega
      · obtain rfl : k = len := by omega
        have H2 : Hid (¬ (g ≠ 0 ∧ clash L g = true)) := fun h => HCL.out ⟨h.1, by rw [← HL.out, List.take_length]; exact h.2⟩
        go_wp2
        go_ret
        exact ⟨by rw [H.out, if_neg H2.out]; rfl, HW3.out.step hh⟩
end Adm
end Go.Proofs.Ytmmjofdienoobaa
