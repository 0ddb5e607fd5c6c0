/-
  Contracts: the guests of a host, a valid placement, Load (chapter 40), of the reference.
-/
import Derived.Test.YtmmjofdienoobaaBaL
set_option linter.unusedVariables false
set_option linter.unusedSimpArgs false
set_option maxRecDepth 100000
namespace Go.Proofs.Ytmmjofdienoobaa
open Go.RowKit
namespace Ba
open Ad Adm
theorem noAt_all {L : List Dem} {on : List Int} {k n : Nat} (h : L.length = n) (hk : n ≤ k) (but : Int) : noAt but ((L.zip on).take k) = noAt but (L.zip on) := by rw [zip_all h hk]
theorem noAt_len (but : Int) (Z : List (Dem × Int)) : (noAt but Z).length ≤ Z.length := by
  unfold noAt; split
  · rw [List.length_eraseIdx]; split <;> omega
  · exact Nat.le_refl _
theorem noAt_bd (L : List Dem) (on : List Int) (h but : Int) (k n : Nat) (hn : L.length = n) : (gu (noAt but ((L.zip on).take k)) h).length ≤ n := by
  refine Nat.le_trans (gu_len _ _) (Nat.le_trans (noAt_len _ _) ?_)
  rw [List.length_take, List.length_zip]; omega
theorem noAt_minus (Z : List (Dem × Int)) : noAt (-1) Z = Z := by unfold noAt; rw [if_neg (by omega)]
set_option maxHeartbeats 2000000 in
theorem at_any (A : Option Addr) (n cap : Nat) (A2 : Option Addr) (n2 cap2 : Nat) (L : List Dem) (on : List Int) (h but : Int) (w : World) (hl : Sl 4 demC w A n L) (ho : Sl 1 inC w A2 n2 on) (hn : n ≤ n2) (hb : (n : Int) ≤ 1000000) :
    Calls Try.prog 54 #[.slice A n cap, .slice A2 n2 cap2, .int .i64 h, .int .i64 but] w (MkDs (gu (noAt but (L.zip on)) h) w) := by
  have HL := Lib.hid hl
  have HO := Lib.hid ho
  have HE : Hid (noAt but ((L.zip on).take n) = noAt but (L.zip on)) := noAt_all hl.1 (Nat.le_refl _) but
  have HB := Lib.hid (fun k => noAt_bd L on h but k n hl.1)
  clear hl ho
  have M0 := Lib.hid ((Mem.start w).nilRow (e := 43) (s := 4) (f := demC))
  go_enter Try.func54, Try.ntmps54
  go_wp2
  go_loopw [9, 10] (fun v i wr => ∃ k : Nat, i = .int .i64 k ∧ k ≤ n ∧ Mem w wr [.row 43 4 demC w.heap.size v (gu (noAt but ((L.zip on).take k)) h)]) (fun _ i _ => n - (intOf i).toNat)
  case atStart => exact ⟨0, rfl, Nat.zero_le _, by have e : gu (noAt but ((L.zip on).take 0)) h = [] := by { unfold noAt gu; split <;> simp }; rw [e]; exact M0.out⟩
  case round =>
    obtain ⟨k, rfl, hk, M⟩ := hrel
    have M1 := Lib.hid M
    clear M M0
    by_cases hlt : (k : Int) < n
    · obtain ⟨b, off, d, rfl, lb, hd, c0, c1, c2, c3⟩ := Sl.at4 HL.out M1.out.held (k := k) (by omega)
      obtain ⟨b2, off2, x, rfl, lb2, hx, x0⟩ := Sl.at1 HO.out M1.out.held (k := k) (by omega)
      have hs := noAt_take L on k d x h but hd hx
      have hlen := HB.out k
      have hle := lt_of_cell x0
      simp only at hle
      have nb2 : ¬ b2 = wr.heap.size := by omega
      clear hd hx
      by_cases he : x = h ∧ ¬ (k : Int) = but
      · have HS : Hid (gu (noAt but ((L.zip on).take (k + 1))) h = gu (noAt but ((L.zip on).take k)) h ++ [d]) := show _ = _ by rw [hs]; simp [one, he]
        obtain ⟨rfl, hkb⟩ := he
        have hq : (x == x) = true := by simp
        have hq2 : ((k : Int) != but) = true := by simp [hkb]
        obtain ⟨ln, hln⟩ : ∃ ln, (gu (noAt but ((L.zip on).take k)) x).length = ln := ⟨_, rfl⟩
        rw [hln] at hlen
        have HLN := Lib.hid hln
        clear hs hln hkb
        go_wp2_with (at_builtin; refine Mem.wp_app (M1.out.skip _) 0 rfl rfl _ _ _ rfl _ 32 Try.underlying25 info_dem rfl (by decide) demC_len demC_one d ⟨wr.heap.size, 0, none⟩ 1 rfl rfl (cells_new _ (by simp) _ _) ln HLN.out (by omega) (by decide) ?_; intro g4 cp4 w4 M4; have M5 := Lib.hid M4; clear M4)
        go_roundw
        case rel => exact ⟨k + 1, by go_num, by omega, by rw [HS.out]; exact M5.out.take 1⟩
        case measure => (simp [intOf]) <;> omega
      · have HS : Hid (gu (noAt but ((L.zip on).take (k + 1))) h = gu (noAt but ((L.zip on).take k)) h) := show _ = _ by
          rw [hs]; unfold one; rw [if_neg (by simp; intro a b; exact he ⟨b, a⟩)]; simp
        by_cases hx : x = h
        · have hb : (x == h) = true := by simp [hx]
          have hb2 : ((k : Int) != but) = false := by simp; exact Decidable.not_not.1 (fun q => he ⟨hx, q⟩)
          clear hs he hx
          go_wp2
          go_roundw
          case rel => exact ⟨k + 1, by go_num, by omega, by rw [HS.out]; exact M1.out⟩
          case measure => (simp [intOf]) <;> omega
        · have hb : (x == h) = false := by simp [hx]
          clear hs he hx
          go_wp2
          go_roundw
          case rel => exact ⟨k + 1, by go_num, by omega, by rw [HS.out]; exact M1.out⟩
          case measure => (simp [intOf]) <;> omega
    · obtain rfl : k = n := by omega
      rw [HE.out] at M1
      go_wp2
      go_ret
      exact Mks.mk (M1.out.row 0 rfl) M1.out.held
theorem there_any (A : Option Addr) (n cap : Nat) (x : Int) (w : World) :
    Calls Try.prog 57 #[.slice A n cap, .int .i64 x] w fun e w' => e = .returned (.bool (inH n x)) ∧ w = w' := by
  by_cases h1 : 0 ≤ x
  · have HP : Hid (inH n x = decide (x < n)) := show _ = _ by unfold inH; simp [h1]
    go_enter Try.func57, Try.ntmps57
    go_wp2
    go_ret
    exact ⟨ret_b HP.out.symm, rfl⟩
  · have HP : Hid (inH n x = false) := show _ = _ by unfold inH; simp [h1]
    go_enter Try.func57, Try.ntmps57
    go_wp2
    go_ret
    exact ⟨ret_b HP.out.symm, rfl⟩
set_option maxHeartbeats 2000000 in
theorem load_ref_any (m c : Int) (up : Bool) (A : Option Addr) (n cap : Nat) (L : List Dem) (w : World) (hl : Sl 4 demC w A n L) (hn : (n : Int) ≤ 100) :
    Calls Try.prog 43 #[.agg #[.int .i64 m, .int .i64 c, .bool up], .slice A n cap] w fun e w' => e = .returned (.int .i64 (load ⟨m, c, up⟩ L)) ∧ Held w w' := by
  have hl1 := hl.1
  have HL := Lib.hid hl
  have M0 := Lib.hid ((Mem.start w).alloc #[.int .i64 m, .int .i64 c, .bool up] 47)
  obtain ⟨v, hv⟩ : ∃ v, vh m c = v := ⟨_, rfl⟩
  have HVH := Lib.hid (fun w' => vh_ref_any m c up w')
  rw [hv] at HVH
  obtain ⟨dv, hdv⟩ : ∃ dv, (decide (L.length ≤ 16) && L.all vd) = dv := ⟨_, rfl⟩
  have HVL : Hid (valid m c L = (v && dv)) := show _ = _ by unfold valid; rw [Bool.and_assoc, hv, hdv]
  have HDV := Lib.hid (fun w' (q : Held w w') => demands_any A n cap L w' (ds_of_sl (HL.out.held q)) hn)
  rw [hdv] at HDV
  have HVV := Lib.hid hv
  have HVD := Lib.hid hdv
  clear hl hv hdv
  cases v
  · have HP : Hid (load ⟨m, c, up⟩ L = 0) := show _ = _ from load_no (.inl HVL.out)
    go_enter Try.func43, Try.ntmps43
    go_wp2_with (go_at_call 58; refine (HVH.out _).mono ?_; rintro e w1 ⟨rfl, h1⟩)
    go_ret
    exact ⟨ret_i HP.out.symm, M0.out.held.step h1⟩
  · have hmb : 0 ≤ m ∧ m ≤ 1000000 := by
      have := HVV.out
      unfold vh at this
      simp only [Bool.and_eq_true] at this
      exact (units_iff _).1 this.1
    obtain ⟨hm0, hm1⟩ := hmb
    cases dv
    · have HP : Hid (load ⟨m, c, up⟩ L = 0) := show _ = _ from load_no (.inl HVL.out)
      go_enter Try.func43, Try.ntmps43
      go_wp2_with (first | (go_at_call 58; refine (HVH.out _).mono ?_; rintro e w1 ⟨rfl, h1⟩; have M1 := Lib.hid (M0.out.keep h1)) | (go_at_call 59; refine (HDV.out _ M1.out.held).mono ?_; rintro e w2 ⟨rfl, h2⟩))
      go_ret
      exact ⟨ret_i HP.out.symm, M1.out.held.step h2⟩
    · by_cases g1 : m = 0
      · have HP : Hid (load ⟨m, c, up⟩ L = 0) := show _ = _ from load_no (.inr g1)
        have gb : (m == 0) = true := by simp [g1]
        clear g1
        go_enter Try.func43, Try.ntmps43
        go_wp2_with (first | (go_at_call 58; refine (HVH.out _).mono ?_; rintro e w1 ⟨rfl, h1⟩; have M1 := Lib.hid (M0.out.keep h1)) | (go_at_call 59; refine (HDV.out _ M1.out.held).mono ?_; rintro e w2 ⟨rfl, h2⟩; obtain ⟨c0, c1, c2⟩ := (M1.out.keep h2).box3 0 rfl |>.1))
        go_ret
        exact ⟨ret_i HP.out.symm, M1.out.held.step h2⟩
      · have gb : (m == 0) = false := by simp [g1]
        have hsb := sum_bd L (by have := HVD.out; simp only [Bool.and_eq_true] at this; exact this.2)
        have HF : Hid (freeM m c L = m - sumR L) := show _ = _ by unfold freeM; rw [HVL.out]; rfl
        have HP : Hid (load ⟨m, c, up⟩ L = sumR L * 1000 / m) := show _ = _ from load_yes HVL.out g1
        obtain ⟨sm, hsm⟩ : ∃ sm, sumR L = sm := ⟨_, rfl⟩
        have HFR := Lib.hid (fun w' (q : Held w w') => free_ref_any m c up A n cap L w' (ds_of_sl (HL.out.held q)) hn)
        rw [HF.out, hsm] at HFR
        rw [hsm] at HP hsb
        have hs0 : 0 ≤ sm := hsb.1
        have hs1 : sm ≤ 100000000 := by omega
        clear hsb hsm
        go_enter Try.func43, Try.ntmps43
        go_wp2_with (first | (go_at_call 58; refine (HVH.out _).mono ?_; rintro e w1 ⟨rfl, h1⟩; have M1 := Lib.hid (M0.out.keep h1)) | (go_at_call 59; refine (HDV.out _ M1.out.held).mono ?_; rintro e w2 ⟨rfl, h2⟩; have M2 := Lib.hid (M1.out.keep h2); obtain ⟨c0, c1, c2⟩ := M2.out.box3 0 rfl |>.1) | (go_at_call 60; refine (HFR.out _ M2.out.held).mono ?_; rintro e w3 ⟨rfl, h3⟩; have M3 := Lib.hid (M2.out.keep h3); obtain ⟨z0, z1, z2⟩ := M3.out.box3 0 rfl |>.1; have hsub : m - (m - sm) = sm := by omega))
        go_ret
        exact ⟨ret_i HP.out.symm, M3.out.held⟩
end Ba
end Go.Proofs.Ytmmjofdienoobaa
