/-
  Contracts: Assign (chapter 40), of the reference.
-/
import Derived.Test.YtmmjofdienoobaaBaK
import Derived.Test.YtmmjofdienoobaaMem5
set_option linter.unusedVariables false
set_option linter.unusedSimpArgs false
set_option maxRecDepth 100000
namespace Go.Proofs.Ytmmjofdienoobaa
open Go.RowKit
namespace Ba
open Ad Adm
theorem zip_cut (L : List Dem) (on : List Int) : (L.take on.length).zip on = L.zip on := by
  induction on generalizing L with
  | nil => simp
  | cons x on ih => cases L with
    | nil => simp
    | cons d L => simp [ih L]
theorem AsTo.step {r : Option (List Int)} {w w1 w' : World} {e : Ending} (h : Held w w1) (ha : AsTo r w1 e w') : AsTo r w e w' := by
  obtain ⟨A, n, cap, h1, h2, h3, h4, h5⟩ := ha
  exact ⟨A, n, cap, h1, h2, h3, h4, h.step h5⟩
set_option maxHeartbeats 2000000 in
theorem asg_go (A : Option Addr) (n cap : Nat) (A2 : Option Addr) (n2 cap2 : Nat) (H : List Hc) (L : List Dem) (hn : (n : Int) ≤ 6) (hn2 : (n2 : Int) ≤ 8) :
    ∀ (f : Nat) (on : List Int) (m : Nat) (A3 : Option Addr) (cap3 : Nat) (w : World), m + f = n2 → m ≤ cap3 → (A3 = none → m = 0) → n2 ≤ cap2 → Sl 3 hcC w A n H → Sl 4 demC w A2 n2 L → Sl 1 inC w A3 m on →
      Calls Try.prog 45 #[.slice A n cap, .slice A2 n2 cap2, .slice A3 m cap3] w (AsTo (asg H L f on) w) := by
  intro f
  induction f with
  | zero =>
    intro on m A3 cap3 w hmf hcap hA3 hcap2 hh hl ho
    have HO := Lib.hid ho
    have hb : ((m : Int) == n2) = true := by simp; omega
    have HA3 := Lib.hid hA3
    clear hh hl ho hA3
    go_enter Try.func45, Try.ntmps45
    go_wp2
    go_ret2
    exact ⟨A3, m, cap3, rfl, HO.out, hcap, HA3.out, Held.refl _⟩
  | succ f ih =>
    intro on m A3 cap3 w hmf hcap hA3 hcap2 hh hl ho
    have HI := Lib.hid ih
    have hb : ((m : Int) == n2) = false := by simp; omega
    obtain ⟨b2, off2, d, rfl, lb2, hd, y0, y1, y2, y3⟩ := Sl.at4 hl (Held.refl w) (k := m) (by omega)
    have HS := Lib.hid (asg_step (H := H) (f := f) (by rw [ho.1]; exact hd))
    rw [hh.1] at HS
    have HH := Lib.hid hh
    have HL := Lib.hid hl
    have HO := Lib.hid ho
    have HTK := Lib.hid (hl.take (k := m) (by omega))
    have HZC : Hid ((L.take m).zip on = L.zip on) := show _ = _ by rw [← ho.1]; exact zip_cut L on
    have Y := Lib.hid (And.intro y0 (And.intro y1 (And.intro y2 y3)))
    have HA3 := Lib.hid hA3
    obtain ⟨r, hr⟩ : ∃ r, asg H L (f + 1) on = r := ⟨_, rfl⟩
    rw [hr] at HS ⊢
    have hm0 : (m : Int) < n2 := by omega
    have hm1 : ¬ (m : Int) < 0 := by omega
    have hm2 : (m : Int) ≤ cap2 := by omega
    clear hh hl ho hA3 ih hd hr y0 y1 y2 y3
    go_enter Try.func45, Try.ntmps45
    go_wp2
    go_loopw [9] (fun i wr => ∃ k : Nat, i = .int .i64 k ∧ k ≤ n ∧ first (gq H L f on d) k = none ∧ Held w wr) (fun i _ => n - (intOf i).toNat)
    case atStart => exact ⟨0, rfl, Nat.zero_le _, rfl, Held.refl _⟩
    case round =>
      obtain ⟨k, rfl, hk, hno, hw⟩ := hrel
      have HN := Lib.hid hno
      have HW := Lib.hid hw
      clear hno hw
      by_cases hlt : (k : Int) < n
      · obtain ⟨b, off, c, rfl, lb, hc, x0, x1, x2⟩ := Sl.at3 HH.out HW.out (k := k) (by omega)
        have HFN := Lib.hid (first_next HN.out)
        have HMY := Lib.hid (may_at (Z := L.zip on) (d := d) hc)
        obtain ⟨m', c', up⟩ := c
        simp only at x0 x1 x2 HMY
        have e0 := HW.out.cell Y.out.1
        have e1 := HW.out.cell Y.out.2.1
        have e2 := HW.out.cell Y.out.2.2.1
        have e3 := HW.out.cell Y.out.2.2.2
        have hk0 : ¬ (k : Int) < 0 := by omega
        have hgl : ((gu (L.zip on) k).length : Int) ≤ 100 := by
          have := gu_len (L.zip on) k
          rw [List.length_zip, HL.out.1] at this; omega
        have HGL := Lib.hid hgl
        have HG := Lib.hid (fun w' (q : Held wr w') => at_any (some ⟨b2, off2, none⟩) m cap2 A3 m cap3 (L.take m) on k (-1) w' (HTK.out.held (HW.out.step q)) (HO.out.held (HW.out.step q)) (Nat.le_refl _) (by omega))
        rw [noAt_minus, HZC.out] at HG
        obtain ⟨G, hG⟩ : ∃ G, gu (L.zip on) k = G := ⟨_, rfl⟩
        rw [hG] at HG HGL HMY
        obtain ⟨ad, had⟩ : ∃ ad, admit m' c' up G d = ad := ⟨_, rfl⟩
        rw [had] at HMY
        have HAD := Lib.hid had
        clear hgl hG had hc
        by_cases ha : ad = 0
        · have hab : (ad != 0) = false := by simp [ha]
          have HG2 : Hid (first (gq H L f on d) (k + 1) = asg H L f (on ++ [(k : Int)])) := show _ = _ by rw [HFN.out]; unfold gq; rw [HMY.out, if_pos (by simp [ha])]
          clear ha
          go_wp2
          go_region_held3 (fun w' => w'.cell? ⟨b, off + k * 3, none⟩ = some (.int .i64 m') ∧ w'.cell? ⟨b, off + k * 3 + 1, none⟩ = some (.int .i64 c') ∧ w'.cell? ⟨b, off + k * 3 + 2, none⟩ = some (.bool up) ∧ w'.cell? ⟨b2, off2 + m * 4, none⟩ = some (.int .i64 d.r) ∧ w'.cell? ⟨b2, off2 + m * 4 + 1, none⟩ = some (.int .i64 d.l) ∧ w'.cell? ⟨b2, off2 + m * 4 + 2, none⟩ = some (.int .i64 d.c) ∧ w'.cell? ⟨b2, off2 + m * 4 + 3, none⟩ = some (.int .i64 d.g) ∧ Held wr w')
            ((repeat' refine And.intro ?_ ?_) <;> first | exact x0 | exact x1 | exact x2 | exact e0 | exact e1 | exact e2 | exact e3 | exact (Held.refl _).drew | exact Held.cell (by assumption) x0 | exact Held.cell (by assumption) x1 | exact Held.cell (by assumption) x2 | exact Held.cell (by assumption) e0 | exact Held.cell (by assumption) e1 | exact Held.cell (by assumption) e2 | exact Held.cell (by assumption) e3 | exact (by assumption))
            (first | (go_at_call 54; refine (HG.out _ (Held.refl _).drew).mono ?_; rintro e w3 ⟨A4, cap4, rfl, hc4, ho4, h4⟩; have d4 := Lib.hid (ds_of_sl (Own.reads demC_len ho4).1); have k4 : Held wr w3 := (Held.refl _).drew.step h4; clear ho4 h4) | (go_at_call 61; refine (admit_ref_any _ _ _ _ _ _ G _ _ _ _ _ d4.out HGL.out).mono ?_; rintro e w7 ⟨rfl, h7⟩; rw [HAD.out]; have k7 : Held wr w7 := k4.step h7))
          have HX := Lib.hid k7
          clear e0 e1 e2 e3 x0 x1 x2
          obtain ⟨r2, hr2⟩ : ∃ r2, asg H L f (on ++ [(k : Int)]) = r2 := ⟨_, rfl⟩
          have HIH := Lib.hid (HI.out (on ++ [(k : Int)]) (m + 1))
          rw [hr2] at HIH HG2
          clear hr2
          have HWX := Lib.hid (HW.out.step HX.out)
          have M1 := Lib.hid ((Mem.start w7).emptyRow (b := w7.heap.size) rfl (e := 3) (s := 1) (f := inC))
          cases r2
          case none =>
            go_wp2_with (first | (at_builtin; refine Mem.wp_cat M1.out 0 rfl rfl _ _ _ rfl _ 8 Try.underlying22 info_int rfl (by decide) inC_len inC_one on A3 m cap3 rfl rfl (HO.out.held (HWX.out.alloc _)) rfl (by omega) (by decide) ?_; intro A8 cap8 w8 M8 hA8; simp only [Nat.zero_add, List.nil_append] at M8 ⊢; have M9 := Lib.hid M8; clear M8) | (at_builtin; refine Mem.wp_app (M9.out.skip _) 0 rfl rfl _ _ _ rfl _ 8 Try.underlying22 info_int rfl (by decide) inC_len inC_one (k : Int) ⟨w8.heap.size, 0, none⟩ 1 rfl rfl (cells_new _ (by simp) _ _) m HO.out.1 (by omega) (by decide) ?_; intro g10 cap10 w10 M10; have MX := Lib.hid M10; have HWY := Lib.hid (HWX.out.step M10.held); clear M10) | (go_at_call 45; refine (HIH.out _ _ _ (by omega) (Own.cap (MX.out.row 0 rfl)) (fun h => by cases h) (by omega) (HH.out.held HWY.out) (HL.out.held HWY.out) (Own.reads inC_len (MX.out.row 0 rfl)).1).mono ?_; rintro e w11 hp; have HP := Lib.hid hp; obtain ⟨A11, n11, cap11, rfl, hs11, hc11, hA11, h11⟩ := hp; clear hs11 hA11))
            go_roundw
            case rel => exact ⟨k + 1, by go_num, by omega, HG2.out, HWY.out.step h11⟩
            case measure => (simp [intOf]) <;> omega
          case some q =>
            go_wp2_with (first | (at_builtin; refine Mem.wp_cat M1.out 0 rfl rfl _ _ _ rfl _ 8 Try.underlying22 info_int rfl (by decide) inC_len inC_one on A3 m cap3 rfl rfl (HO.out.held (HWX.out.alloc _)) rfl (by omega) (by decide) ?_; intro A8 cap8 w8 M8 hA8; simp only [Nat.zero_add, List.nil_append] at M8 ⊢; have M9 := Lib.hid M8; clear M8) | (at_builtin; refine Mem.wp_app (M9.out.skip _) 0 rfl rfl _ _ _ rfl _ 8 Try.underlying22 info_int rfl (by decide) inC_len inC_one (k : Int) ⟨w8.heap.size, 0, none⟩ 1 rfl rfl (cells_new _ (by simp) _ _) m HO.out.1 (by omega) (by decide) ?_; intro g10 cap10 w10 M10; have MX := Lib.hid M10; have HWY := Lib.hid (HWX.out.step M10.held); clear M10) | (go_at_call 45; refine (HIH.out _ _ _ (by omega) (Own.cap (MX.out.row 0 rfl)) (fun h => by cases h) (by omega) (HH.out.held HWY.out) (HL.out.held HWY.out) (Own.reads inC_len (MX.out.row 0 rfl)).1).mono ?_; rintro e w11 hp; have HP := Lib.hid hp; obtain ⟨A11, n11, cap11, rfl, hs11, hc11, hA11, h11⟩ := hp; clear hs11 hA11))
            go_ret2
            rw [HS.out, first_stay HG2.out n (by omega)]
            exact AsTo.step HWY.out HP.out
        · have hab : (ad != 0) = true := by simp [ha]
          have HG2 : Hid (first (gq H L f on d) (k + 1) = none) := show _ = _ by rw [HFN.out]; unfold gq; rw [HMY.out, if_neg (by simp [ha])]
          clear ha
          go_wp2
          go_region_held3 (fun w' => w'.cell? ⟨b, off + k * 3, none⟩ = some (.int .i64 m') ∧ w'.cell? ⟨b, off + k * 3 + 1, none⟩ = some (.int .i64 c') ∧ w'.cell? ⟨b, off + k * 3 + 2, none⟩ = some (.bool up) ∧ w'.cell? ⟨b2, off2 + m * 4, none⟩ = some (.int .i64 d.r) ∧ w'.cell? ⟨b2, off2 + m * 4 + 1, none⟩ = some (.int .i64 d.l) ∧ w'.cell? ⟨b2, off2 + m * 4 + 2, none⟩ = some (.int .i64 d.c) ∧ w'.cell? ⟨b2, off2 + m * 4 + 3, none⟩ = some (.int .i64 d.g) ∧ Held wr w')
            ((repeat' refine And.intro ?_ ?_) <;> first | exact x0 | exact x1 | exact x2 | exact e0 | exact e1 | exact e2 | exact e3 | exact (Held.refl _).drew | exact Held.cell (by assumption) x0 | exact Held.cell (by assumption) x1 | exact Held.cell (by assumption) x2 | exact Held.cell (by assumption) e0 | exact Held.cell (by assumption) e1 | exact Held.cell (by assumption) e2 | exact Held.cell (by assumption) e3 | exact (by assumption))
            (first | (go_at_call 54; refine (HG.out _ (Held.refl _).drew).mono ?_; rintro e w3 ⟨A4, cap4, rfl, hc4, ho4, h4⟩; have d4 := Lib.hid (ds_of_sl (Own.reads demC_len ho4).1); have k4 : Held wr w3 := (Held.refl _).drew.step h4; clear ho4 h4) | (go_at_call 61; refine (admit_ref_any _ _ _ _ _ _ G _ _ _ _ _ d4.out HGL.out).mono ?_; rintro e w7 ⟨rfl, h7⟩; rw [HAD.out]; have k7 : Held wr w7 := k4.step h7))
          go_wp2
          go_roundw
          case rel => exact ⟨k + 1, by go_num, by omega, HG2.out, HW.out.step k7⟩
          case measure => (simp [intOf]) <;> omega
      · obtain rfl : k = n := by omega
        rw [HN.out] at HS
        go_wp2
        go_ret2
        exact AsTo.no HS.out HW.out
set_option maxHeartbeats 1000000 in
theorem assign_ref (A : Option Addr) (n cap : Nat) (A2 : Option Addr) (n2 cap2 : Nat) (H : List Hc) (L : List Dem) (w : World) (hh : Sl 3 hcC w A n H) (hl : Sl 4 demC w A2 n2 L) (hc2 : n2 ≤ cap2) :
    Calls Try.prog 21 #[.slice A n cap, .slice A2 n2 cap2] w (AsTo (assign H L) w) := by
  have hh1 := hh.1
  have hl1 := hl.1
  by_cases hout : (n : Int) < 1 ∨ 6 < (n : Int) ∨ 8 < (n2 : Int)
  · have HP := Lib.hid (assign_out (H := H) (L := L) (by rw [hh1, hl1]; omega))
    clear hh hl hh1 hl1
    by_cases g1 : (n : Int) < 1
    · go_enter Try.func21, Try.ntmps21
      go_wp2
      go_ret2
      exact AsTo.no HP.out (Held.refl _)
    by_cases g2 : (6 : Int) < n
    · go_enter Try.func21, Try.ntmps21
      go_wp2
      go_ret2
      exact AsTo.no HP.out (Held.refl _)
    have g3 : (8 : Int) < n2 := by omega
    go_enter Try.func21, Try.ntmps21
    go_wp2
    go_ret2
    exact AsTo.no HP.out (Held.refl _)
  · have HP := Lib.hid (assign_in (H := H) (L := L) (by rw [hh1, hl1]; omega))
    have g1 : ¬ (n : Int) < 1 := by omega
    have g2 : ¬ (6 : Int) < n := by omega
    have g3 : ¬ (8 : Int) < n2 := by omega
    have HG := Lib.hid (asg_go A n cap A2 n2 cap2 H L (by omega) (by omega) n2 [] 0 none 0 w (by omega) (Nat.le_refl _) (fun _ => rfl) hc2 hh hl (Sl.nil w none))
    rw [hl1] at HP
    rw [HP.out]
    clear hh hl hh1 hl1 hout hc2 HP
    go_enter Try.func21, Try.ntmps21
    go_wp2_with (go_at_call 45; refine HG.out.mono ?_; rintro e w11 hp; have HP := Lib.hid hp; obtain ⟨A11, n11, cap11, rfl, hs11, hc11, hA11, h11⟩ := hp; clear hs11 hA11)
    go_ret2
    exact HP.out
end Ba
end Go.Proofs.Ytmmjofdienoobaa
