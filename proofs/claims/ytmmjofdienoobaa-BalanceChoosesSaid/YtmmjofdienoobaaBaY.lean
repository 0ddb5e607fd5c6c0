/-
  Contracts: Evacuate (chapter 40), of the reference; SameMoves, SameInts.
-/
import Derived.Test.YtmmjofdienoobaaBaW
set_option linter.unusedVariables false
set_option linter.unusedSimpArgs false
set_option maxRecDepth 100000
namespace Go.Proofs.Ytmmjofdienoobaa
open Go.RowKit Go.BigFrame
namespace Ba
open Ad Adm
theorem noAt_nat (k : Nat) (Z : List (Dem × Int)) : noAt (k : Int) Z = Z.eraseIdx k := by unfold noAt; rw [if_pos (by omega)]; rfl
set_option maxHeartbeats 2000000 in
theorem evac_ref (A : Option Addr) (n cap : Nat) (A2 : Option Addr) (n2 cap2 : Nat) (A3 : Option Addr) (n3 cap3 : Nat) (host : Int) (H : List Hc) (L : List Dem) (on : List Int) (w : World)
    (hh : Sl 3 hcC w A n H) (hl : Sl 4 demC w A2 n2 L) (ho : Sl 1 inC w A3 n3 on) :
    Calls Try.prog 42 #[.slice A n cap, .slice A2 n2 cap2, .slice A3 n3 cap3, .int .i64 host] w (EvTo (evacuate H L on host) w) := by
  have HH := Lib.hid hh
  have HL := Lib.hid hl
  have HO := Lib.hid ho
  have HV := Lib.hid (place_any A n cap A2 n2 cap2 A3 n3 cap3 H L on w hh hl ho)
  have HTH := Lib.hid (fun w' => there_any A n cap host w')
  obtain ⟨p, hp⟩ : ∃ p, place H L on = p := ⟨_, rfl⟩
  obtain ⟨t, ht⟩ : ∃ t, inH n host = t := ⟨_, rfl⟩
  rw [hp] at HV
  rw [ht] at HTH
  cases p
  · have HP := Lib.hid (evac_no (host := host) (H := H) (L := L) (on := on) (by rw [hp]; simp))
    clear hp hh hl ho
    go_enter Try.func42, Try.ntmps42
    go_wp2_with (go_at_call 53; refine HV.out.mono ?_; rintro e w1 ⟨rfl, h1⟩)
    go_ret3
    exact EvTo.no HP.out h1
  · cases t
    · have HP := Lib.hid (evac_no (host := host) (H := H) (L := L) (on := on) (by rw [hh.1]; unfold inH at ht; simp at ht; omega))
      clear hp hh hl ho ht
      go_enter Try.func42, Try.ntmps42
      go_wp2_with (first | (go_at_call 53; refine HV.out.mono ?_; rintro e w1 ⟨rfl, h1⟩) | (go_at_call 57; refine (HTH.out _).mono ?_; rintro e w2 ⟨rfl, rfl⟩))
      go_ret3
      exact EvTo.no HP.out h1
    have HP := Lib.hid (evac_yes (host := host) (H := H) (L := L) (on := on) ⟨hp, by unfold inH at ht; simp at ht; omega, by rw [hh.1]; unfold inH at ht; simp at ht; omega⟩)
    rw [hl.1] at HP
    have hbd := place_bd hp
    rw [hh.1, hl.1, ho.1] at hbd
    obtain rfl : n3 = n2 := by omega
    have hn1 : (n : Int) ≤ 6 := by omega
    have hn3 : (n3 : Int) ≤ 16 := by omega
    have HCH := Lib.hid (fun (x no : List Int) C c3 D (d : Dem) (k : Nat) w' (q : Held w w') (h2 : Sl 1 inC w' C n3 x) (h3 : Sl 1 inC w' D 1 no) => chooseZ_ref A n cap A2 n3 cap2 C n3 c3 D 1 1 H L x no d (k : Int) w' (HH.out.held q) (HL.out.held q) h2 h3 (by omega) (by omega) (by omega) rfl)
    obtain ⟨R, hR⟩ : ∃ R, evacuate H L on host = R := ⟨_, rfl⟩
    rw [hR] at HP ⊢
    have HLL : Hid (L.length = n3) := HL.out.1
    clear hp hh hl ho hbd hR ht
    go_enter Try.func42, Try.ntmps42
    go_wp2_with (first | (go_at_call 53; refine HV.out.mono ?_; rintro e w1 ⟨rfl, h1⟩) | (go_at_call 57; refine (HTH.out _).mono ?_; rintro e w2 ⟨rfl, rfl⟩; have M1 := Lib.hid (((Mem.of h1).nilRow (e := 37) (s := 3) (f := mvC)).emptyRow (b := w1.heap.size) rfl (e := 3) (s := 1) (f := inC))) | (at_builtin; refine Mem.wp_cat M1.out 1 rfl rfl _ _ _ rfl _ 8 Try.underlying22 info_int rfl (by decide) inC_len inC_one on A3 n3 cap3 rfl rfl (HO.out.held M1.out.held) rfl (by omega) (by decide) ?_; intro A8 cap8 w8 M8 hA8; simp only [Nat.zero_add, List.nil_append] at M8 ⊢; have M9 := Lib.hid M8; clear M8))
    go_loopw [11, 12, 13] (fun v u i wr => ∃ (k : Nat) (ms : List Mv) (x : List Int), i = .int .i64 k ∧ k ≤ n3 ∧ x.length = n3 ∧ evTo H L on host k = some (ms, x) ∧ ms.length ≤ k ∧ Mem w wr [.row 37 3 mvC w.heap.size v ms, .row 3 1 inC w.heap.size u x]) (fun _ _ i _ => n3 - (intOf i).toNat)
    case atStart => exact ⟨0, [], on, rfl, Nat.zero_le _, HO.out.1, rfl, Nat.zero_le _, M9.out⟩
    case round =>
      obtain ⟨k, ms, x, rfl, hk, hx, hev, hms, M⟩ := hrel
      have HX := Lib.hid hx
      have HEV := Lib.hid hev
      have M4 := Lib.hid M
      obtain ⟨A13, cap13, rfl, _⟩ := (M.row 0 rfl).shape
      obtain ⟨A5, cap5, rfl, _⟩ := (M.row 1 rfl).shape
      rw [hx] at M4 ⊢
      clear M M9 M1 hx hev
      have hk0 : ¬ (k : Int) < 0 := by omega
      by_cases hlt : (k : Int) < n3
      · obtain ⟨b, off, d, rfl, lb, hd, z0, z1, z2, z3⟩ := Sl.at4 HL.out M4.out.held (k := k) (by omega)
        obtain ⟨b3, off3, oh, rfl, lb3, hoh, o0⟩ := Sl.at1 HO.out M4.out.held (k := k) (by omega)
        have HNX := Lib.hid (evTo_next HEV.out hd hoh)
        simp only at HNX
        clear hd hoh
        obtain ⟨ln, hln⟩ : ∃ ln, ms.length = ln := ⟨_, rfl⟩
        rw [hln] at M4 hms ⊢
        have HLN := Lib.hid hln
        clear hln
        by_cases he : oh = host
        · have hb : (oh != host) = false := by simp [he]
          rw [if_pos he] at HNX
          subst he
          have M5 := Lib.hid (M4.out.alloc #[.int .i64 oh] 3)
          have HCX := Lib.hid (HCH.out x [oh] A5 cap5 (some ⟨wr.heap.size, 0, none⟩) d k _ M5.out.held (Own.reads inC_len (M5.out.row 1 rfl)).1 (sl_one rfl oh))
          rw [noAt_nat] at HCX
          obtain ⟨p2, hp2⟩ : ∃ p2, chooseZ H ((L.zip x).eraseIdx k) d [oh] = p2 := ⟨_, rfl⟩
          rw [hp2] at HNX HCX
          obtain ⟨to, ok⟩ := p2
          simp only at HNX HCX
          clear hp2
          have HMV := Lib.hid (fun B c w' (hx : Sl 1 inC w' B n3 x) => moved_any B n3 c x k to w' hx (by omega) (by omega))
          obtain ⟨x', hx'⟩ : ∃ x', x.set k to = x' := ⟨_, rfl⟩
          have HXL : Hid (x'.length = n3) := show _ = _ by rw [← hx', List.length_set]; exact HX.out
          rw [hx'] at HMV HNX
          clear hx'
          cases ok
          · have HE : Hid (R = none) := show _ = _ by rw [HP.out]; exact evTo_none (k := k + 1) (by rw [HNX.out]; rfl) n3 (by omega)
            go_wp2_with (go_at_call 55; refine HCX.out.mono ?_; rintro e w6 ⟨rfl, h6⟩; have M6 := Lib.hid (M5.out.keep h6))
            go_ret3
            exact EvTo.no HE.out M6.out.held
          · go_wp2_with (first | (go_at_call 55; refine HCX.out.mono ?_; rintro e w6 ⟨rfl, h6⟩; have M6 := Lib.hid (M5.out.keep h6)) | (at_builtin; refine Mem.wp_app (M6.out.skip _) 0 rfl rfl _ _ _ rfl _ 24 Try.underlying33 info_mv rfl (by decide) mvC_len mvC_one ⟨k, oh, to⟩ ⟨w6.heap.size, 0, none⟩ 1 rfl rfl (cells_new _ (by simp) _ _) ln HLN.out (by omega) (by decide) ?_; intro g14 cp14 w14 M14; have M15 := Lib.hid M14; clear M14) | (go_at_call 56; refine (HMV.out _ _ _ (Own.reads inC_len (M15.out.row 1 rfl)).1).mono ?_; rintro e w16 ⟨A16, cap16, rfl, _, ho16, h16⟩; have M16 := Lib.hid ((M15.out.own h16 ho16).sel [0, 3] (by decide)); clear ho16))
            go_roundw
            case rel => exact ⟨k + 1, ms ++ [(⟨(k : Int), oh, to⟩ : Mv)], x', by go_num, by omega, HXL.out, by rw [HNX.out]; rfl, by rw [List.length_append, HLN.out]; simp; omega, M16.out⟩
            case measure => (simp [intOf]) <;> omega
        · have hb : (oh != host) = true := by simp [he]
          rw [if_neg he] at HNX
          clear he
          go_wp2
          go_roundw
          case rel => exact ⟨k + 1, ms, x, by go_num, by omega, HX.out, HNX.out, by rw [HLN.out]; omega, M4.out⟩
          case measure => (simp [intOf]) <;> omega
      · obtain rfl : k = n3 := by omega
        rw [HEV.out] at HP
        go_wp2
        go_ret3
        rw [HP.out]
        exact ⟨_, _, _, _, _, _, rfl, (Own.reads mvC_len (M4.out.row 0 rfl)).1, (Own.reads inC_len (M4.out.row 1 rfl)).1, M4.out.held⟩
/-- Equal lists of numbers are the same. -/
theorem sameI_any (A : Option Addr) (n cap : Nat) (B : Option Addr) (m c : Nat) (L : List Int) (w : World) (h1 : Sl 1 inC w A n L) (h2 : Sl 1 inC w B m L) (hn : (n : Int) ≤ 1000000) :
    Calls Try.prog 15 #[.slice A n cap, .slice B m c] w fun e w' => e = .returned (.bool true) ∧ Held w w' := by
  obtain rfl : n = m := h1.1.symm.trans h2.1
  have H1 := Lib.hid h1
  have H2 := Lib.hid h2
  have hq : ((n : Int) != n) = false := by simp
  clear h1 h2
  go_enter Try.func15, Try.ntmps15
  go_wp2
  go_loopw [5] (fun i wr => ∃ k : Nat, i = .int .i64 k ∧ k ≤ n ∧ Held w wr) (fun i _ => n - (intOf i).toNat)
  case atStart => exact ⟨0, rfl, Nat.zero_le _, Held.refl _⟩
  case round =>
    obtain ⟨k, rfl, hk, hw⟩ := hrel
    have HW := Lib.hid hw
    clear hw
    by_cases hlt : (k : Int) < n
    · obtain ⟨b, off, x, rfl, _, hx, x0⟩ := Sl.at1 H1.out HW.out (k := k) (by omega)
      obtain ⟨b2, off2, y, rfl, _, hy, y0⟩ := Sl.at1 H2.out HW.out (k := k) (by omega)
      obtain rfl : x = y := by rw [hx] at hy; injection hy
      have hne : (x != x) = false := by simp
      have k0 : ¬ (k : Int) < 0 := by omega
      clear hx hy
      go_wp2
      go_big_quiet (fail)
      go_wp2
      go_roundw
      case rel => exact ⟨k + 1, by go_num, by omega, HW.out.step ((Held.refl wr).drewN _)⟩
      case measure => (simp [intOf]) <;> omega
    · go_wp2
      go_ret
      exact ⟨rfl, HW.out⟩
end Ba
end Go.Proofs.Ytmmjofdienoobaa
