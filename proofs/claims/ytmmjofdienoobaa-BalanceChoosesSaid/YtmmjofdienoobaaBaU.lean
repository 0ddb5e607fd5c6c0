/-
  Contracts: Spread of the reference (chapter 40).
-/
import Derived.Test.YtmmjofdienoobaaBaT
set_option linter.unusedVariables false
set_option linter.unusedSimpArgs false
set_option maxRecDepth 100000
namespace Go.Proofs.Ytmmjofdienoobaa
open Go.RowKit
namespace Ba
open Ad Adm
set_option maxHeartbeats 1000000 in
theorem spread_ref (A : Option Addr) (n cap : Nat) (A2 : Option Addr) (n2 cap2 : Nat) (A3 : Option Addr) (n3 cap3 : Nat) (H : List Hc) (L : List Dem) (on : List Int) (w : World)
    (hh : Sl 3 hcC w A n H) (hl : Sl 4 demC w A2 n2 L) (ho : Sl 1 inC w A3 n3 on) :
    Calls Try.prog 38 #[.slice A n cap, .slice A2 n2 cap2, .slice A3 n3 cap3] w fun e w' => e = .returned (.tuple #[.int .i64 (spread H L on).1, .bool (spread H L on).2]) ∧ Held w w' := by
  have HV := Lib.hid (place_any A n cap A2 n2 cap2 A3 n3 cap3 H L on w hh hl ho)
  have hh1 := hh.1
  have hl1 := hl.1
  have ho1 := ho.1
  have HH := Lib.hid hh
  have HL := Lib.hid hl
  have HO := Lib.hid ho
  clear hh hl ho
  obtain ⟨p, hp⟩ : ∃ p, place H L on = p := ⟨_, rfl⟩
  rw [hp] at HV
  cases p
  · have HP := Lib.hid (spread_no hp)
    clear hp
    go_enter Try.func38, Try.ntmps38
    go_wp2_with (go_at_call 53; refine HV.out.mono ?_; rintro e w1 ⟨rfl, h1⟩)
    go_ret2
    exact ⟨ret_ib HP.out, h1⟩
  · have HP := Lib.hid (spread_yes hp)
    have hbd := place_bd hp
    rw [hh1, hl1, ho1] at hbd
    rw [hh1] at HP
    have hb1 : (n : Int) ≤ 6 := by omega
    have hb2 : (n2 : Int) ≤ 16 := by omega
    obtain rfl : n3 = n2 := by omega
    have HLL := Lib.hid hl1
    clear hp hh1 ho1 hbd hl1
    go_enter Try.func38, Try.ntmps38
    go_wp2_with (go_at_call 53; refine HV.out.mono ?_; rintro e w1 ⟨rfl, h1⟩)
    go_loopw [8, 9, 10, 11] (fun lo hi ct i wr => ∃ k : Nat, i = .int .i64 k ∧ k ≤ n ∧ lo = .int .i64 (mn (loads H (L.zip on) k)) ∧ hi = .int .i64 (mx (loads H (L.zip on) k)) ∧ ct = .int .i64 (loads H (L.zip on) k).length ∧ Held w wr) (fun _ _ _ i _ => n - (intOf i).toNat)
    case atStart => exact ⟨0, rfl, Nat.zero_le _, rfl, rfl, rfl, h1⟩
    case round =>
      obtain ⟨k, rfl, hk, rfl, rfl, rfl, hw⟩ := hrel
      have HW := Lib.hid hw
      have hbd := loads_bd H (L.zip on) k
      have hll := loads_len H (L.zip on) k
      clear hw h1 HV
      by_cases hlt : (k : Int) < n
      · obtain ⟨b, off, c, rfl, lb, hc, s0, s1, s2⟩ := Sl.at3 HH.out HW.out (k := k) (by omega)
        have HLN := Lib.hid (loads_next (Z := L.zip on) hc)
        obtain ⟨m, cc, up⟩ := c
        simp only at s0 s1 s2
        have k1 : ¬ (k : Int) < 0 := by omega
        obtain ⟨l, hl⟩ : ∃ l, loads H (L.zip on) k = l := ⟨_, rfl⟩
        rw [hl] at HLN hbd hll ⊢
        clear hc
        cases up
        · have HL2 : Hid (loads H (L.zip on) (k + 1) = l) := show _ = _ by rw [HLN.out]; simp
          clear hl hbd
          obtain ⟨x, hx⟩ : ∃ x, mx l = x := ⟨_, rfl⟩
          obtain ⟨y, hy⟩ : ∃ y, mn l = y := ⟨_, rfl⟩
          obtain ⟨ln, hln⟩ : ∃ ln, l.length = ln := ⟨_, rfl⟩
          rw [hx, hy, hln]
          have HX := Lib.hid (And.intro hx (And.intro hy hln))
          clear hx hy hln
          go_wp2
          go_roundw
          case rel => exact ⟨k + 1, by go_num, by omega, by rw [HL2.out, HX.out.2.1], by rw [HL2.out, HX.out.1], by rw [HL2.out, HX.out.2.2], HW.out⟩
          case measure => (simp [intOf]) <;> omega
        · have HG := Lib.hid (fun w' (q : Held wr w') => at_any A2 n3 cap2 A3 n3 cap3 L on k (-1) w' (HL.out.held (HW.out.step q)) (HO.out.held (HW.out.step q)) (by omega) (by omega))
          rw [noAt_minus] at HG
          have HGL : Hid (((gu (L.zip on) k).length : Int) ≤ 100) := show _ ≤ _ by have := gu_len (L.zip on) k; rw [List.length_zip] at this; have := HLL.out; omega
          obtain ⟨G, hG⟩ : ∃ G, gu (L.zip on) k = G := ⟨_, rfl⟩
          rw [hG] at HG HLN HGL
          obtain ⟨x, hx⟩ : ∃ x, load ⟨m, cc, true⟩ G = x := ⟨_, rfl⟩
          have HLD := Lib.hid (fun A cap w' (h : Sl 4 demC w' A G.length G) => load_ref_any m cc true A G.length cap G w' h HGL.out)
          rw [hx] at HLD HLN
          have HL2 : Hid (loads H (L.zip on) (k + 1) = l ++ [x]) := show _ = _ by rw [HLN.out]; simp
          have HMX := Lib.hid (mx_snoc l x)
          have HMN := Lib.hid (mn_snoc l x)
          clear hG hl HLN
          obtain ⟨hi, hhi⟩ : ∃ hi, mx l = hi := ⟨_, rfl⟩
          obtain ⟨lo, hlo⟩ : ∃ lo, mn l = lo := ⟨_, rfl⟩
          obtain ⟨ln, hln⟩ : ∃ ln, l.length = ln := ⟨_, rfl⟩
          rw [hhi, hlo, hln]
          rw [hhi] at HMX
          rw [hlo] at HMN
          have HLE : Hid ((l ++ [x]).length = ln + 1) := show _ = _ by rw [List.length_append, hln]; rfl
          have hln1 : (ln : Int) ≤ 6 := by omega
          by_cases h0 : l = []
          · have HR : Hid (mx (l ++ [x]) = x ∧ mn (l ++ [x]) = x) := And.intro (by rw [h0]; rfl) (by rw [h0]; rfl)
            have hz : ((ln : Int) == 0) = true := by rw [← hln, h0]; rfl
            clear hbd h0 hhi hlo hln hx HMX HMN
            go_wp2
            go_region_held3 (fun w' => w'.cell? ⟨b, off + k * 3, none⟩ = some (.int .i64 m) ∧ w'.cell? ⟨b, off + k * 3 + 1, none⟩ = some (.int .i64 cc) ∧ w'.cell? ⟨b, off + k * 3 + 2, none⟩ = some (.bool true) ∧ Held wr w')
              ((repeat' refine And.intro ?_ ?_) <;> first | exact s0 | exact s1 | exact s2 | exact (Held.refl _).drew | exact Held.cell (by assumption) s0 | exact Held.cell (by assumption) s1 | exact Held.cell (by assumption) s2 | exact (by assumption))
              (first | (go_at_call 54; refine (HG.out _ (Held.refl _).drew).mono ?_; rintro e w3 ⟨A4, cap4, rfl, hc4, ho4, h4⟩; have d4 := Lib.hid (Own.reads demC_len ho4).1; have k4 : Held wr w3 := (Held.refl _).drew.step h4; clear ho4 h4) | (go_at_call 43; refine (HLD.out _ _ _ d4.out).mono ?_; rintro e w5 ⟨rfl, h5⟩; have k5 : Held wr w5 := k4.step h5))
            go_wp2
            go_roundw
            case rel => exact ⟨k + 1, by go_num, by omega, by rw [HL2.out, HR.out.2], by rw [HL2.out, HR.out.1], by rw [HL2.out, HLE.out]; go_num, HW.out.step k5⟩
            case measure => (simp [intOf]) <;> omega
          · have HR : Hid (mx (l ++ [x]) = (if hi < x then x else hi) ∧ mn (l ++ [x]) = (if x < lo then x else lo)) := And.intro (HMX.out h0) (HMN.out h0)
            have hz : ((ln : Int) == 0) = false := by
              have : 1 ≤ l.length := by cases l with | nil => exact absurd rfl h0 | cons => simp
              simp; omega
            clear hbd h0 hhi hlo hln hx HMX HMN
            by_cases c1 : x < lo
            · by_cases c2 : hi < x
              · go_wp2
                go_region_held3 (fun w' => w'.cell? ⟨b, off + k * 3, none⟩ = some (.int .i64 m) ∧ w'.cell? ⟨b, off + k * 3 + 1, none⟩ = some (.int .i64 cc) ∧ w'.cell? ⟨b, off + k * 3 + 2, none⟩ = some (.bool true) ∧ Held wr w')
                  ((repeat' refine And.intro ?_ ?_) <;> first | exact s0 | exact s1 | exact s2 | exact (Held.refl _).drew | exact Held.cell (by assumption) s0 | exact Held.cell (by assumption) s1 | exact Held.cell (by assumption) s2 | exact (by assumption))
                  (first | (go_at_call 54; refine (HG.out _ (Held.refl _).drew).mono ?_; rintro e w3 ⟨A4, cap4, rfl, hc4, ho4, h4⟩; have d4 := Lib.hid (Own.reads demC_len ho4).1; have k4 : Held wr w3 := (Held.refl _).drew.step h4; clear ho4 h4) | (go_at_call 43; refine (HLD.out _ _ _ d4.out).mono ?_; rintro e w5 ⟨rfl, h5⟩; have k5 : Held wr w5 := k4.step h5))
                go_wp2
                go_roundw
                case rel => exact ⟨k + 1, by go_num, by omega, by rw [HL2.out, HR.out.2, if_pos c1], by rw [HL2.out, HR.out.1, if_pos c2], by rw [HL2.out, HLE.out]; go_num, HW.out.step k5⟩
                case measure => (simp [intOf]) <;> omega
              · go_wp2
                go_region_held3 (fun w' => w'.cell? ⟨b, off + k * 3, none⟩ = some (.int .i64 m) ∧ w'.cell? ⟨b, off + k * 3 + 1, none⟩ = some (.int .i64 cc) ∧ w'.cell? ⟨b, off + k * 3 + 2, none⟩ = some (.bool true) ∧ Held wr w')
                  ((repeat' refine And.intro ?_ ?_) <;> first | exact s0 | exact s1 | exact s2 | exact (Held.refl _).drew | exact Held.cell (by assumption) s0 | exact Held.cell (by assumption) s1 | exact Held.cell (by assumption) s2 | exact (by assumption))
                  (first | (go_at_call 54; refine (HG.out _ (Held.refl _).drew).mono ?_; rintro e w3 ⟨A4, cap4, rfl, hc4, ho4, h4⟩; have d4 := Lib.hid (Own.reads demC_len ho4).1; have k4 : Held wr w3 := (Held.refl _).drew.step h4; clear ho4 h4) | (go_at_call 43; refine (HLD.out _ _ _ d4.out).mono ?_; rintro e w5 ⟨rfl, h5⟩; have k5 : Held wr w5 := k4.step h5))
                go_wp2
                go_roundw
                case rel => exact ⟨k + 1, by go_num, by omega, by rw [HL2.out, HR.out.2, if_pos c1], by rw [HL2.out, HR.out.1, if_neg (by omega)], by rw [HL2.out, HLE.out]; go_num, HW.out.step k5⟩
                case measure => (simp [intOf]) <;> omega
            · by_cases c2 : hi < x
              · go_wp2
                go_region_held3 (fun w' => w'.cell? ⟨b, off + k * 3, none⟩ = some (.int .i64 m) ∧ w'.cell? ⟨b, off + k * 3 + 1, none⟩ = some (.int .i64 cc) ∧ w'.cell? ⟨b, off + k * 3 + 2, none⟩ = some (.bool true) ∧ Held wr w')
                  ((repeat' refine And.intro ?_ ?_) <;> first | exact s0 | exact s1 | exact s2 | exact (Held.refl _).drew | exact Held.cell (by assumption) s0 | exact Held.cell (by assumption) s1 | exact Held.cell (by assumption) s2 | exact (by assumption))
                  (first | (go_at_call 54; refine (HG.out _ (Held.refl _).drew).mono ?_; rintro e w3 ⟨A4, cap4, rfl, hc4, ho4, h4⟩; have d4 := Lib.hid (Own.reads demC_len ho4).1; have k4 : Held wr w3 := (Held.refl _).drew.step h4; clear ho4 h4) | (go_at_call 43; refine (HLD.out _ _ _ d4.out).mono ?_; rintro e w5 ⟨rfl, h5⟩; have k5 : Held wr w5 := k4.step h5))
                go_wp2
                go_roundw
                case rel => exact ⟨k + 1, by go_num, by omega, by rw [HL2.out, HR.out.2, if_neg (by omega)], by rw [HL2.out, HR.out.1, if_pos c2], by rw [HL2.out, HLE.out]; go_num, HW.out.step k5⟩
                case measure => (simp [intOf]) <;> omega
              · go_wp2
                go_region_held3 (fun w' => w'.cell? ⟨b, off + k * 3, none⟩ = some (.int .i64 m) ∧ w'.cell? ⟨b, off + k * 3 + 1, none⟩ = some (.int .i64 cc) ∧ w'.cell? ⟨b, off + k * 3 + 2, none⟩ = some (.bool true) ∧ Held wr w')
                  ((repeat' refine And.intro ?_ ?_) <;> first | exact s0 | exact s1 | exact s2 | exact (Held.refl _).drew | exact Held.cell (by assumption) s0 | exact Held.cell (by assumption) s1 | exact Held.cell (by assumption) s2 | exact (by assumption))
                  (first | (go_at_call 54; refine (HG.out _ (Held.refl _).drew).mono ?_; rintro e w3 ⟨A4, cap4, rfl, hc4, ho4, h4⟩; have d4 := Lib.hid (Own.reads demC_len ho4).1; have k4 : Held wr w3 := (Held.refl _).drew.step h4; clear ho4 h4) | (go_at_call 43; refine (HLD.out _ _ _ d4.out).mono ?_; rintro e w5 ⟨rfl, h5⟩; have k5 : Held wr w5 := k4.step h5))
                go_wp2
                go_roundw
                case rel => exact ⟨k + 1, by go_num, by omega, by rw [HL2.out, HR.out.2, if_neg (by omega)], by rw [HL2.out, HR.out.1, if_neg (by omega)], by rw [HL2.out, HLE.out]; go_num, HW.out.step k5⟩
                case measure => (simp [intOf]) <;> omega
      · obtain rfl : k = n := by omega
        obtain ⟨x0, x1⟩ := mx_bd hbd
        obtain ⟨n0, n1⟩ := mn_bd hbd
        obtain ⟨l, hl⟩ : ∃ l, loads H (L.zip on) k = l := ⟨_, rfl⟩
        rw [hl] at HP x0 x1 n0 n1 hll ⊢
        have HP2 : Hid (spread H L on = (mx l - mn l, decide ((0 : Nat) < l.length))) := show _ = _ by
          rw [HP.out]
          by_cases h0 : l = []
          · rw [h0]; rfl
          · rw [spreadL_ne h0]
            have : 1 ≤ l.length := by cases l with | nil => exact absurd rfl h0 | cons => simp
            have : decide ((0 : Nat) < l.length) = true := by simp; omega
            rw [this]
        obtain ⟨x, hx⟩ : ∃ x, mx l = x := ⟨_, rfl⟩
        obtain ⟨y, hy⟩ : ∃ y, mn l = y := ⟨_, rfl⟩
        obtain ⟨ln, hln⟩ : ∃ ln, l.length = ln := ⟨_, rfl⟩
        rw [hx] at HP2 x0 x1 ⊢
        rw [hy] at HP2 n0 n1 ⊢
        rw [hln] at HP2 hll ⊢
        clear hl hbd hx hy hln
        go_wp2
        go_ret2
        exact ⟨ret_ib HP2.out, HW.out⟩
end Ba
end Go.Proofs.Ytmmjofdienoobaa
