/-
  Contracts: a valid placement (chapter 40), of the program.
-/
import Derived.Test.YtmmjofdienoobaaBaC
set_option linter.unusedVariables false
set_option linter.unusedSimpArgs false
set_option maxRecDepth 100000
namespace Go.Proofs.Ytmmjofdienoobaa
open Go.RowKit
namespace Ba
open Ad Adm
theorem all_next {L : List Int} {p : Int → Bool} {k : Nat} {x : Int} (h : L[k]? = some x) : (L.take (k + 1)).all p = ((L.take k).all p && p x) := by
  obtain ⟨hk, rfl⟩ := List.getElem?_eq_some_iff.1 h
  rw [List.take_succ_eq_append_getElem hk, List.all_append]; simp
theorem place_out {H : List Hc} {L : List Dem} {on : List Int} (h : out H L on = true) : place H L on = false := by unfold place; rw [h]; rfl
theorem place_in {H : List Hc} {L : List Dem} {on : List Int} {k : Nat} {x : Int} (hx : on[k]? = some x) (h : inH H.length x = false) : place H L on = false := by
  have : on.all (inH H.length) = false := by
    rw [List.all_eq_false]; exact ⟨x, List.mem_of_getElem? hx, by simp [h]⟩
  unfold place; rw [this]; simp
theorem fitTo_no {H : List Hc} {Z : List (Dem × Int)} {k : Nat} (h : fitTo H Z k = false) : ∀ j, k ≤ j → fitTo H Z j = false := by
  intro j hj
  induction j with
  | zero => obtain rfl : k = 0 := by omega
            exact h
  | succ j ih =>
    by_cases e : k = j + 1
    · rw [← e]; exact h
    · rw [fitTo, ih (by omega)]; rfl
theorem place_fit {H : List Hc} {L : List Dem} {on : List Int} {k : Nat} (hk : k ≤ H.length) (h : fitTo H (L.zip on) k = false) : place H L on = false := by
  unfold place; rw [fitTo_no h _ hk]; simp
theorem place_ok {H : List Hc} {L : List Dem} {on : List Int} (h1 : out H L on = false) (h2 : on.all (inH H.length) = true) (h3 : fitTo H (L.zip on) H.length = true) : place H L on = true := by
  unfold place; rw [h1, h2, h3]; rfl
theorem fit_next {H : List Hc} {Z : List (Dem × Int)} {k : Nat} {c : Hc} (h : H[k]? = some c) : fitTo H Z (k + 1) = (fitTo H Z k && fits c.m c.c c.up (gu Z k)) := by
  rw [fitTo, h]
theorem ret_b {a b : Bool} (h : a = b) : Ending.returned (.bool a) = .returned (.bool b) := by rw [h]
set_option maxHeartbeats 8000000 in
theorem valid_any (A : Option Addr) (n cap : Nat) (A2 : Option Addr) (n2 cap2 : Nat) (A3 : Option Addr) (n3 cap3 : Nat) (H : List Hc) (L : List Dem) (on : List Int) (w : World)
    (hh : Sl 3 hcC w A n H) (hl : Sl 4 demC w A2 n2 L) (ho : Sl 1 inC w A3 n3 on) :
    Calls Try.prog 30 #[.slice A n cap, .slice A2 n2 cap2, .slice A3 n3 cap3] w fun e w' => e = .returned (.bool (place H L on)) ∧ Held w w' := by
  have hh1 := hh.1
  have hl1 := hl.1
  have ho1 := ho.1
  by_cases hout : (n : Int) < 1 ∨ 6 < (n : Int) ∨ 16 < (n2 : Int) ∨ ¬ (n3 : Int) = n2
  · have HP : Hid (place H L on = false) := show _ = _ from place_out (by unfold out; rw [hh1, hl1, ho1]; simp; omega)
    clear hh hl ho hh1 hl1 ho1
    by_cases g1 : (n : Int) < 1
    · go_enter Try.func30, Try.ntmps30
      go_wp2
      go_ret
      exact ⟨ret_b HP.out.symm, Held.refl _⟩
    by_cases g2 : (6 : Int) < n
    · go_enter Try.func30, Try.ntmps30
      go_wp2
      go_ret
      exact ⟨ret_b HP.out.symm, Held.refl _⟩
    by_cases g3 : (16 : Int) < n2
    · go_enter Try.func30, Try.ntmps30
      go_wp2
      go_ret
      exact ⟨ret_b HP.out.symm, Held.refl _⟩
    have g4 : ((n3 : Int) != n2) = true := by simp; omega
    go_enter Try.func30, Try.ntmps30
    go_wp2
    go_ret
    exact ⟨ret_b HP.out.symm, Held.refl _⟩
  · have HOUT : Hid (out H L on = false) := show _ = _ by unfold out; rw [hh1, hl1, ho1]; simp; omega
    have g1 : ¬ (n : Int) < 1 := by omega
    have g2 : ¬ (6 : Int) < n := by omega
    have g3 : ¬ (16 : Int) < n2 := by omega
    have g4 : ((n3 : Int) != n2) = false := by simp; omega
    have HH := Lib.hid hh
    have HL := Lib.hid hl
    have HO := Lib.hid ho
    have HN : Hid (n3 = n2) := show _ = _ by omega
    have HHL := Lib.hid hh1
    have HE : Hid (on.take n3 = on) := show _ = _ from take_all ho1 (Nat.le_refl _)
    clear hh hl ho hh1 hl1 ho1
    go_enter Try.func30, Try.ntmps30
    go_wp2
    go_loopw [33] (fun i wr => ∃ k : Nat, i = .int .i64 k ∧ k ≤ n3 ∧ (on.take k).all (inH n) = true ∧ Held w wr) (fun i _ => n3 - (intOf i).toNat)
    case atStart => exact ⟨0, rfl, Nat.zero_le _, rfl, Held.refl _⟩
    case round =>
      obtain ⟨k, rfl, hk, hall, hw⟩ := hrel
      have HA := Lib.hid hall
      have HW := Lib.hid hw
      clear hall hw
      by_cases hlt : (k : Int) < n3
      · obtain ⟨b, off, x, rfl, lb, hx, x0⟩ := Sl.at1 HO.out HW.out (k := k) (by omega)
        have HX := Lib.hid hx
        clear hx
        by_cases h1 : x < 0
        · have HP : Hid (place H L on = false) := show _ = _ from place_in HX.out (by unfold inH; simp; omega)
          go_wp2
          go_ret
          exact ⟨ret_b HP.out.symm, HW.out⟩
        · by_cases h2 : (n : Int) ≤ x
          · have HP : Hid (place H L on = false) := show _ = _ from place_in HX.out (by unfold inH; rw [HHL.out]; simp; omega)
            go_wp2
            go_ret
            exact ⟨ret_b HP.out.symm, HW.out⟩
          · have HA2 : Hid ((on.take (k + 1)).all (inH n) = true) := show _ = _ by rw [all_next HX.out, HA.out]; unfold inH; simp; omega
            go_wp2
            go_roundw
            case rel => exact ⟨k + 1, by go_num, by omega, HA2.out, HW.out⟩
            case measure => (simp [intOf]) <;> omega
      · obtain rfl : k = n3 := by omega
        rw [HE.out] at HA
        go_wp2
        go_loopw [48] (fun i wr => ∃ k : Nat, i = .int .i64 k ∧ k ≤ n ∧ fitTo H (L.zip on) k = true ∧ Held w wr) (fun i _ => n - (intOf i).toNat)
        case atStart => exact ⟨0, rfl, Nat.zero_le _, rfl, HW.out⟩
        case round =>
          obtain ⟨j, rfl, hj, hft, hw⟩ := hrel
          have HF := Lib.hid hft
          have HV := Lib.hid hw
          clear hft hw HW
          by_cases hlt2 : (j : Int) < n
          · obtain ⟨b, off, c, rfl, lb, hc, c0, c1, c2⟩ := Sl.at3 HH.out HV.out (k := j) (by omega)
            have M1 := Lib.hid ((Mem.of HV.out).alloc #[.int .i64 c.m, .int .i64 c.c, .bool c.up] 47)
            have HFN := Lib.hid (fit_next (Z := L.zip on) hc)
            have S0 := Lib.hid (M1.out.box3 0 rfl).1
            obtain ⟨s0, s1, s2⟩ := S0.out
            have hgl : ∀ Z : List (Dem × Int), Z.length ≤ 16 → ((gu Z j).length : Int) ≤ 100 := fun Z hZ => by have := gu_len Z j; omega
            have HGL : Hid (((gu (L.zip on) j).length : Int) ≤ 100) := hgl _ (by rw [List.length_zip]; have := HL.out.1; omega)
            have HG := Lib.hid (fun w' (q : Held wr w') => guests_any A2 n2 cap2 A3 k cap3 L on j w' (HL.out.held (HV.out.step q)) (HO.out.held (HV.out.step q)) (by have := HN.out; omega) (by omega))
            obtain ⟨G, hG⟩ : ∃ G, gu (L.zip on) j = G := ⟨_, rfl⟩
            rw [hG] at HG HGL HFN
            obtain ⟨q, hq⟩ : ∃ q, fits c.m c.c c.up G = q := ⟨_, rfl⟩
            have HQ := Lib.hid hq
            rw [hq] at HFN
            clear hc hgl hG hq
            cases q
            · have HP : Hid (place H L on = false) := show _ = _ from place_fit (k := j + 1) (by rw [HHL.out]; omega) (by rw [HFN.out]; simp)
              go_wp2
              go_region_held3 (fun w' => w'.cell? ⟨wr.heap.size, 0, none⟩ = some (.int .i64 c.m) ∧ w'.cell? ⟨wr.heap.size, 1, none⟩ = some (.int .i64 c.c) ∧ w'.cell? ⟨wr.heap.size, 2, none⟩ = some (.bool c.up) ∧ Held (wr.alloc (.cells #[.int .i64 c.m, .int .i64 c.c, .bool c.up] 47)) w')
                ((repeat' refine And.intro ?_ ?_) <;> first | exact s0 | exact s1 | exact s2 | exact (Held.refl _).drew | exact Held.cell (by assumption) s0 | exact Held.cell (by assumption) s1 | exact Held.cell (by assumption) s2 | exact (by assumption))
                (first | (go_at_call 35; refine (HG.out _ (Held.step ((Held.refl wr).alloc _) (Held.refl _).drew)).mono ?_; rintro e w3 ⟨A4, cap4, rfl, hc4, ho4, h4⟩; have d4 := Lib.hid (ds_of_sl (Own.reads demC_len ho4).1); have k4 : Held (wr.alloc (.cells #[.int .i64 c.m, .int .i64 c.c, .bool c.up] 47)) w3 := (Held.refl _).drew.step h4; clear ho4 h4) | (go_at_call 29; refine (fits_any _ _ _ _ _ _ G _ d4.out HGL.out hc4).mono ?_; rintro e w5 ⟨rfl, h5⟩; rw [HQ.out]; have k5 : Held (wr.alloc (.cells #[.int .i64 c.m, .int .i64 c.c, .bool c.up] 47)) w5 := k4.step h5))
              go_wp2
              go_ret
              exact ⟨ret_b HP.out.symm, (HV.out.alloc _).step k5⟩
            · have HF2 : Hid (fitTo H (L.zip on) (j + 1) = true) := show _ = _ by rw [HFN.out, HF.out]; rfl
              go_wp2
              go_region_held3 (fun w' => w'.cell? ⟨wr.heap.size, 0, none⟩ = some (.int .i64 c.m) ∧ w'.cell? ⟨wr.heap.size, 1, none⟩ = some (.int .i64 c.c) ∧ w'.cell? ⟨wr.heap.size, 2, none⟩ = some (.bool c.up) ∧ Held (wr.alloc (.cells #[.int .i64 c.m, .int .i64 c.c, .bool c.up] 47)) w')
                ((repeat' refine And.intro ?_ ?_) <;> first | exact s0 | exact s1 | exact s2 | exact (Held.refl _).drew | exact Held.cell (by assumption) s0 | exact Held.cell (by assumption) s1 | exact Held.cell (by assumption) s2 | exact (by assumption))
                (first | (go_at_call 35; refine (HG.out _ (Held.step ((Held.refl wr).alloc _) (Held.refl _).drew)).mono ?_; rintro e w3 ⟨A4, cap4, rfl, hc4, ho4, h4⟩; have d4 := Lib.hid (ds_of_sl (Own.reads demC_len ho4).1); have k4 : Held (wr.alloc (.cells #[.int .i64 c.m, .int .i64 c.c, .bool c.up] 47)) w3 := (Held.refl _).drew.step h4; clear ho4 h4) | (go_at_call 29; refine (fits_any _ _ _ _ _ _ G _ d4.out HGL.out hc4).mono ?_; rintro e w5 ⟨rfl, h5⟩; rw [HQ.out]; have k5 : Held (wr.alloc (.cells #[.int .i64 c.m, .int .i64 c.c, .bool c.up] 47)) w5 := k4.step h5))
              go_wp2
              go_roundw
              case rel => exact ⟨j + 1, by go_num, by omega, HF2.out, (HV.out.alloc _).step k5⟩
              case measure => (simp [intOf]) <;> omega
          · obtain rfl : j = n := by omega
            have HP : Hid (place H L on = true) := show _ = _ from place_ok HOUT.out (by rw [HHL.out]; exact HA.out) (by rw [HHL.out]; exact HF.out)
            go_wp2
            go_ret
            exact ⟨ret_b HP.out.symm, HV.out⟩
end Ba
end Go.Proofs.Ytmmjofdienoobaa
