/-
  Contracts: Choose (chapter 40), of the program.
-/
import Derived.Test.YtmmjofdienoobaaBaU
set_option linter.unusedVariables false
set_option linter.unusedSimpArgs false
set_option maxRecDepth 100000
namespace Go.Proofs.Ytmmjofdienoobaa
open Go.RowKit
namespace Ba
open Ad Adm
section
variable {H : List Hc} {Z : List (Dem × Int)} {d : Dem} {no : List Int} {k : Nat} {c : Hc}
theorem ch_out (hc : H[k]? = some c) (h : hasI no k = true) : chooseTo H Z d no (k + 1) = chooseTo H Z d no k := by
  rw [chooseTo, hc]
  simp only
  rw [if_neg]
  rintro ⟨h1, _⟩
  unfold hasI at h
  rw [h1] at h; cases h
theorem ch_bad (hc : H[k]? = some c) (h : ¬ admit c.m c.c c.up (gu Z k) d = 0) : chooseTo H Z d no (k + 1) = chooseTo H Z d no k := by
  rw [chooseTo, hc]
  simp only
  rw [if_neg]
  rintro ⟨_, h1, _⟩
  exact h h1
theorem ch_yes (hc : H[k]? = some c) (h : hasI no k = false) (h1 : admit c.m c.c c.up (gu Z k) d = 0) (h2 : (chooseTo H Z d no k).1 < 0 ∨ (chooseTo H Z d no k).2 < freeM c.m c.c (gu Z k)) : chooseTo H Z d no (k + 1) = ((k : Int), freeM c.m c.c (gu Z k)) := by
  rw [chooseTo, hc]
  simp only
  rw [if_pos ⟨h, h1, h2⟩]
theorem ch_no (hc : H[k]? = some c) (h2 : ¬ ((chooseTo H Z d no k).1 < 0 ∨ (chooseTo H Z d no k).2 < freeM c.m c.c (gu Z k))) : chooseTo H Z d no (k + 1) = chooseTo H Z d no k := by
  rw [chooseTo, hc]
  simp only
  rw [if_neg]
  rintro ⟨_, _, h1⟩
  exact h2 h1
end
theorem ch_bd (H : List Hc) (Z : List (Dem × Int)) (d : Dem) (no : List Int) : ∀ k, -1 ≤ (chooseTo H Z d no k).1 ∧ (chooseTo H Z d no k).1 < k
  | 0 => ⟨Int.le_refl (-1), by show (-1 : Int) < ((0 : Nat) : Int); omega⟩
  | k + 1 => by
    have := ch_bd H Z d no k
    rw [chooseTo]
    split
    · split
      · simp only; omega
      · omega
    · omega
theorem choose_no {H : List Hc} {L : List Dem} {on : List Int} {d : Dem} {no : List Int} (h : place H L on = false) : choose H L on d no = (0, false) := by
  unfold choose; rw [h]; rfl
theorem choose_yes {H : List Hc} {L : List Dem} {on : List Int} {d : Dem} {no : List Int} (h : place H L on = true) : choose H L on d no = chooseZ H (L.zip on) d no := by
  unfold choose; rw [h]; rfl
theorem pick_no {s : Int × Int} (h : s.1 < 0) : pick s = (0, false) := by unfold pick; rw [if_pos h]
theorem pick_yes {s : Int × Int} (h : ¬ s.1 < 0) : pick s = (s.1, true) := by unfold pick; rw [if_neg h]
set_option maxHeartbeats 2000000 in
theorem choose_any (A : Option Addr) (n cap : Nat) (A2 : Option Addr) (n2 cap2 : Nat) (A3 : Option Addr) (n3 cap3 : Nat) (A4 : Option Addr) (n4 cap4 : Nat) (H : List Hc) (L : List Dem) (on no : List Int) (d : Dem) (w : World)
    (hh : Sl 3 hcC w A n H) (hl : Sl 4 demC w A2 n2 L) (ho : Sl 1 inC w A3 n3 on) (hno : Sl 1 inC w A4 n4 no) (hn4 : (n4 : Int) ≤ 1000000) :
    Calls Try.prog 16 #[.slice A n cap, .slice A2 n2 cap2, .slice A3 n3 cap3, .agg #[.int .i64 d.r, .int .i64 d.l, .int .i64 d.c, .int .i64 d.g], .slice A4 n4 cap4] w fun e w' => e = .returned (.tuple #[.int .i64 (choose H L on d no).1, .bool (choose H L on d no).2]) ∧ Held w w' := by
  have HV := Lib.hid (fun w' (q : Held w w') => valid_any A n cap A2 n2 cap2 A3 n3 cap3 H L on w' (hh.held q) (hl.held q) (ho.held q))
  have hh1 := hh.1
  have hl1 := hl.1
  have ho1 := ho.1
  have HH := Lib.hid hh
  have HL := Lib.hid hl
  have HO := Lib.hid ho
  have HNO := Lib.hid hno
  have M0 := Lib.hid ((Mem.start w).alloc #[.int .i64 d.r, .int .i64 d.l, .int .i64 d.c, .int .i64 d.g] 43)
  clear hh hl ho hno
  obtain ⟨p, hp⟩ : ∃ p, place H L on = p := ⟨_, rfl⟩
  rw [hp] at HV
  cases p
  · have HP := Lib.hid (choose_no (d := d) (no := no) hp)
    clear hp
    go_enter Try.func16, Try.ntmps16
    go_wp2_with (go_at_call 30; refine (HV.out _ M0.out.held).mono ?_; rintro e w1 ⟨rfl, h1⟩)
    go_ret2
    exact ⟨ret_ib HP.out, M0.out.held.step h1⟩
  · have HP := Lib.hid (choose_yes (d := d) (no := no) hp)
    have hbd := place_bd hp
    rw [hh1, hl1, ho1] at hbd
    unfold chooseZ at HP
    rw [hh1] at HP
    have hb1 : (n : Int) ≤ 6 := by omega
    have hb2 : (n2 : Int) ≤ 16 := by omega
    obtain rfl : n3 = n2 := by omega
    have HLL := Lib.hid hl1
    clear hp hh1 ho1 hbd hl1
    go_enter Try.func16, Try.ntmps16
    go_wp2_with (go_at_call 30; refine (HV.out _ M0.out.held).mono ?_; rintro e w1 ⟨rfl, h1⟩; have M1 := Lib.hid (M0.out.keep h1))
    go_loopw [12, 13, 26] (fun b m i wr => ∃ k : Nat, i = .int .i64 k ∧ k ≤ n ∧ b = .int .i64 (chooseTo H (L.zip on) d no k).1 ∧ m = .int .i64 (chooseTo H (L.zip on) d no k).2 ∧ Mem w wr [.box w.heap.size #[.int .i64 d.r, .int .i64 d.l, .int .i64 d.c, .int .i64 d.g] 43]) (fun _ _ i _ => n - (intOf i).toNat)
    case atStart => exact ⟨0, rfl, Nat.zero_le _, rfl, rfl, M1.out⟩
    case round =>
      obtain ⟨k, rfl, hk, rfl, rfl, M⟩ := hrel
      have M2 := Lib.hid M
      have hcb := ch_bd H (L.zip on) d no k
      clear M h1 M1 HV M0
      by_cases hlt : (k : Int) < n
      · obtain ⟨b, off, c, rfl, lb, hc, x0, x1, x2⟩ := Sl.at3 HH.out M2.out.held (k := k) (by omega)
        have HC := Lib.hid hc
        obtain ⟨m, cc, up⟩ := c
        simp only at x0 x1 x2
        have hlb := lt_of_cell x0
        simp only at hlb
        have M3 := Lib.hid (M2.out.alloc #[.int .i64 m, .int .i64 cc, .bool up] 47)
        have HG := Lib.hid (guests_any A2 n3 cap2 A3 n3 cap3 L on k (wr.alloc (.cells #[.int .i64 m, .int .i64 cc, .bool up] 47)) (HL.out.held M3.out.held) (HO.out.held M3.out.held) (Nat.le_refl _) (by omega))
        have HX1 := Lib.hid (ch_out (Z := L.zip on) (d := d) (no := no) hc)
        have HX2 := Lib.hid (ch_bad (Z := L.zip on) (d := d) (no := no) hc)
        have HX3 := Lib.hid (ch_yes (Z := L.zip on) (d := d) (no := no) hc)
        have HX4 := Lib.hid (ch_no (Z := L.zip on) (d := d) (no := no) hc)
        have HGL : Hid (((gu (L.zip on) k).length : Int) ≤ 100) := show _ ≤ _ by have := gu_len (L.zip on) k; rw [List.length_zip] at this; have := HLL.out; omega
        have HCT := Lib.hid (fun w' (q : Held w w') => contains_any A4 n4 cap4 no k w' (HNO.out.held q) hn4)
        obtain ⟨G, hG⟩ : ∃ G, gu (L.zip on) k = G := ⟨_, rfl⟩
        obtain ⟨s, hs⟩ : ∃ s, chooseTo H (L.zip on) d no k = s := ⟨_, rfl⟩
        obtain ⟨q, hq⟩ : ∃ q, hasI no k = q := ⟨_, rfl⟩
        simp only at HX2 HX3 HX4
        rw [hG] at HG HGL HX2 HX3 HX4
        rw [hs] at HX1 HX2 HX3 HX4 hcb ⊢
        rw [hq] at HCT HX1 HX3
        obtain ⟨best, most⟩ := s
        obtain ⟨ad, had⟩ : ∃ ad, admit m cc up G d = ad := ⟨_, rfl⟩
        obtain ⟨fr, hfr⟩ : ∃ fr, freeM m cc G = fr := ⟨_, rfl⟩
        rw [had] at HX2 HX3
        rw [hfr] at HX3 HX4
        simp only at HX1 HX2 HX3 HX4 hcb ⊢
        have HAD := Lib.hid had
        have HFR := Lib.hid hfr
        clear hc hG hs hq had hfr
        go_wp2_with fail
        refine HG.out.mono ?_
        rintro e w3 ⟨A5, cap5, rfl, hc5, ho5, h5⟩
        have HD5 := Lib.hid (ds_of_sl (Own.reads demC_len ho5).1)
        have M4 := Lib.hid (M3.out.keep h5)
        obtain ⟨⟨y0, y1, y2⟩, _, ylt⟩ := M4.out.box3 1 rfl
        obtain ⟨⟨z0, z1, z2, z3⟩, _, zlt⟩ := M4.out.box4 0 rfl
        clear ho5 h5 HG
        cases q
        · by_cases ha : ad = 0
          · have hab : (ad != 0) = false := by simp [ha]
            have HA : Hid (ad = 0) := ha
            clear ha
            by_cases hb : best < 0
            · have HN := Lib.hid (HX3.out rfl HA.out (.inl hb))
              go_wp2_with (first | (go_at_call 36; refine (HCT.out _ M4.out.held).mono ?_; rintro e w4 ⟨rfl, rfl⟩) | (go_at_call 18; refine (admit_any _ _ _ _ _ _ G _ _ _ _ _ HD5.out HGL.out).mono ?_; rintro e w6 ⟨rfl, h6⟩; rw [HAD.out]; have M5 := Lib.hid (M4.out.keep h6); have HD6 := Lib.hid (HD5.out.held h6); clear y0 y1 y2 z0 z1 z2 z3; obtain ⟨⟨y0, y1, y2⟩, _, ylt2⟩ := M5.out.box3 1 rfl; obtain ⟨⟨z0, z1, z2, z3⟩, _, zlt2⟩ := M5.out.box4 0 rfl) | (go_at_call 17; refine (free_any _ _ _ _ _ _ G _ HD6.out HGL.out).mono ?_; rintro e w7 ⟨rfl, h7⟩; rw [HFR.out]; have M6 := Lib.hid (M5.out.keep h7)))
              go_roundw
              case rel => exact ⟨k + 1, by go_num, by omega, by rw [HN.out], by rw [HN.out], M6.out.take 1⟩
              case measure => (simp [intOf]) <;> omega
            · by_cases hm : most < fr
              · have HN := Lib.hid (HX3.out rfl HA.out (.inr hm))
                go_wp2_with (first | (go_at_call 36; refine (HCT.out _ M4.out.held).mono ?_; rintro e w4 ⟨rfl, rfl⟩) | (go_at_call 18; refine (admit_any _ _ _ _ _ _ G _ _ _ _ _ HD5.out HGL.out).mono ?_; rintro e w6 ⟨rfl, h6⟩; rw [HAD.out]; have M5 := Lib.hid (M4.out.keep h6); have HD6 := Lib.hid (HD5.out.held h6); clear y0 y1 y2 z0 z1 z2 z3; obtain ⟨⟨y0, y1, y2⟩, _, ylt2⟩ := M5.out.box3 1 rfl; obtain ⟨⟨z0, z1, z2, z3⟩, _, zlt2⟩ := M5.out.box4 0 rfl) | (go_at_call 17; refine (free_any _ _ _ _ _ _ G _ HD6.out HGL.out).mono ?_; rintro e w7 ⟨rfl, h7⟩; rw [HFR.out]; have M6 := Lib.hid (M5.out.keep h7)))
                go_roundw
                case rel => exact ⟨k + 1, by go_num, by omega, by rw [HN.out], by rw [HN.out], M6.out.take 1⟩
                case measure => (simp [intOf]) <;> omega
              · have HN := Lib.hid (HX4.out (by omega))
                go_wp2_with (first | (go_at_call 36; refine (HCT.out _ M4.out.held).mono ?_; rintro e w4 ⟨rfl, rfl⟩) | (go_at_call 18; refine (admit_any _ _ _ _ _ _ G _ _ _ _ _ HD5.out HGL.out).mono ?_; rintro e w6 ⟨rfl, h6⟩; rw [HAD.out]; have M5 := Lib.hid (M4.out.keep h6); have HD6 := Lib.hid (HD5.out.held h6); clear y0 y1 y2 z0 z1 z2 z3; obtain ⟨⟨y0, y1, y2⟩, _, ylt2⟩ := M5.out.box3 1 rfl; obtain ⟨⟨z0, z1, z2, z3⟩, _, zlt2⟩ := M5.out.box4 0 rfl) | (go_at_call 17; refine (free_any _ _ _ _ _ _ G _ HD6.out HGL.out).mono ?_; rintro e w7 ⟨rfl, h7⟩; rw [HFR.out]; have M6 := Lib.hid (M5.out.keep h7)))
                go_roundw
                case rel => exact ⟨k + 1, by go_num, by omega, by rw [HN.out], by rw [HN.out], M6.out.take 1⟩
                case measure => (simp [intOf]) <;> omega
          · have hab : (ad != 0) = true := by simp [ha]
            have HN := Lib.hid (HX2.out ha)
            clear ha
            go_wp2_with (first | (go_at_call 36; refine (HCT.out _ M4.out.held).mono ?_; rintro e w4 ⟨rfl, rfl⟩) | (go_at_call 18; refine (admit_any _ _ _ _ _ _ G _ _ _ _ _ HD5.out HGL.out).mono ?_; rintro e w6 ⟨rfl, h6⟩; rw [HAD.out]; have M5 := Lib.hid (M4.out.keep h6)))
            go_roundw
            case rel => exact ⟨k + 1, by go_num, by omega, by rw [HN.out], by rw [HN.out], M5.out.take 1⟩
            case measure => (simp [intOf]) <;> omega
        · have HN := Lib.hid (HX1.out rfl)
          go_wp2_with (go_at_call 36; refine (HCT.out _ M4.out.held).mono ?_; rintro e w4 ⟨rfl, rfl⟩)
          go_roundw
          case rel => exact ⟨k + 1, by go_num, by omega, by rw [HN.out], by rw [HN.out], M4.out.take 1⟩
          case measure => (simp [intOf]) <;> omega
      · obtain rfl : k = n := by omega
        obtain ⟨s, hs⟩ : ∃ s, chooseTo H (L.zip on) d no k = s := ⟨_, rfl⟩
        rw [hs] at HP hcb ⊢
        obtain ⟨best, most⟩ := s
        clear hs
        simp only at hcb ⊢
        by_cases hb : best < 0
        · have HP2 : Hid (choose H L on d no = (0, false)) := show _ = _ by rw [HP.out, pick_no hb]
          go_wp2
          go_ret2
          exact ⟨ret_ib HP2.out, M2.out.held⟩
        · have HP2 : Hid (choose H L on d no = (best, true)) := show _ = _ by rw [HP.out, pick_yes hb]
          go_wp2
          go_ret2
          exact ⟨ret_ib HP2.out, M2.out.held⟩
end Ba
end Go.Proofs.Ytmmjofdienoobaa
