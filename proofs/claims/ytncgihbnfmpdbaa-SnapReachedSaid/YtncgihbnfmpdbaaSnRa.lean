/-
  Contracts: exists, kids, FindNode of the reference (chapter 41).
  Contracts: deltas, ValidTree of the reference: a valid tree is valid (chapter 41).
  Contracts: delta, sees, SizeOf, NewTree, ReadNode, ViewNode of the reference (chapter 41).
  Contracts: ReadNode, ViewNode, NewTree of the reference (chapter 41).
-/
import Derived.Test.YtncgihbnfmpdbaaSnZ
set_option linter.unusedVariables false
set_option linter.unusedSimpArgs false
set_option maxRecDepth 100000
namespace Go.Proofs.Ytncgihbnfmpdbaa
open Go.RowKit Go.BigFrame
namespace Sn
set_option maxHeartbeats 2000000 in
theorem rexists_any (Ab : Option Addr) (nb cb : Nat) (An : Option Addr) (nn cn : Nat) (T : Tr) (k : Int) (w : World) (h : TrR w Ab nb An nn T) :
    Calls Try.prog 45 #[.agg #[.slice Ab nb cb, .slice An nn cn], .int .i64 k] w fun e w' => e = .returned (.bool (ex T.nodes k)) ∧ Held w w' := by
  have HT := Lib.hid h
  have M0 := Lib.hid ((Mem.start w).alloc #[.slice Ab nb cb, .slice An nn cn] 27)
  have hnn := h.nn
  clear h
  by_cases g1 : k < 0
  · have HP : Hid (ex T.nodes k = false) := show _ = _ by unfold ex; rw [decide_eq_false (by omega)]; rfl
    go_enter Try.func45, Try.ntmps45
    go_wp2
    go_ret
    exact ⟨ret_b HP.out.symm, M0.out.held⟩
  · obtain ⟨i, rfl⟩ := Int.eq_ofNat_of_zero_le (by omega : 0 ≤ k)
    by_cases g2 : (i : Int) < nn
    · obtain ⟨b, off, x, A, n, cap, rfl, lb, hx, x0, x1, x2, x3, _⟩ := HT.out.at_ M0.out.held (k := i) (by omega)
      have HP : Hid (ex T.nodes i = live x) := show _ = _ by unfold ex; rw [show ((i : Int)).toNat = i by omega, hx]; simp
      have hl := nm_live x
      have hlb := lt_of_cell x0
      clear hx
      go_enter Try.func45, Try.ntmps45
      go_wp2
      go_ret
      exact ⟨ret_b HP.out.symm, M0.out.held⟩
    · have HP : Hid (ex T.nodes i = false) := show _ = _ by unfold ex; rw [show ((i : Int)).toNat = i by omega, List.getElem?_eq_none (by omega)]; simp
      go_enter Try.func45, Try.ntmps45
      go_wp2
      go_ret
      exact ⟨ret_b HP.out.symm, M0.out.held⟩
set_option maxHeartbeats 2000000 in
theorem rkids_any (Ab : Option Addr) (nb cb : Nat) (An : Option Addr) (nn cn : Nat) (T : Tr) (p : Int) (w : World) (h : TrR w Ab nb An nn T) (hn : (nn : Int) ≤ 1000000) :
    Calls Try.prog 49 #[.agg #[.slice Ab nb cb, .slice An nn cn], .int .i64 p] w (Mks 3 1 inC (kids T.nodes p) w) := by
  have HT := Lib.hid h
  have HE : Hid (kids T.nodes p = kidsTo T.nodes p nn) := show _ = _ by unfold kids; rw [h.nn]
  have M0 := Lib.hid (((Mem.start w).alloc #[.slice Ab nb cb, .slice An nn cn] 27).nilRow (e := 3) (s := 1) (f := inC))
  clear h
  go_enter Try.func49, Try.ntmps49
  go_wp2
  go_loopw [5, 6] (fun v i wr => ∃ (k ln : Nat) (B : Option Addr) (cp : Nat), i = .int .i64 k ∧ k ≤ nn ∧ v = .slice B ln cp ∧ (kidsTo T.nodes p k).length = ln ∧ Mem w wr [.box w.heap.size #[.slice Ab nb cb, .slice An nn cn] 27, .row 3 1 inC w.heap.size (.slice B ln cp) (kidsTo T.nodes p k)]) (fun _ i _ => nn - (intOf i).toNat)
  case atStart => exact ⟨0, 0, none, 0, rfl, Nat.zero_le _, rfl, rfl, M0.out⟩
  case round =>
    obtain ⟨k, ln, B, cp, rfl, hk, rfl, hln, M⟩ := hrel
    have M1 := Lib.hid M
    clear M M0
    obtain ⟨⟨u0, u1⟩, _, ult⟩ := M1.out.box2 0 rfl
    by_cases hlt : (k : Int) < nn
    · obtain ⟨b, off, x, A, n, cap, rfl, lb, hx, x0, x1, x2, x3, _⟩ := HT.out.at_ M1.out.held (k := k) (by omega)
      have HN := Lib.hid (kidsTo_next (n := p) hx)
      have hlb := lt_of_cell x0
      simp only at hlb
      have hl := nm_live x
      have hlen := kidsTo_len T.nodes p k
      rw [hln] at hlen
      have HLN := Lib.hid hln
      clear hx hln
      cases hlv : live x
      · rw [hlv] at hl
        have HS : Hid (kidsTo T.nodes p (k + 1) = kidsTo T.nodes p k) := show _ = _ by rw [HN.out]; unfold isKid; rw [hlv]; simp
        clear hlv
        go_wp2
        go_roundw
        case rel => exact ⟨k + 1, ln, B, cp, by go_num, by omega, rfl, by rw [HS.out]; exact HLN.out, by rw [HS.out]; exact M1.out⟩
        case measure => (simp [intOf]) <;> omega
      · rw [hlv] at hl
        by_cases hp : x.par = p
        · have HS : Hid (kidsTo T.nodes p (k + 1) = kidsTo T.nodes p k ++ [(k : Int)]) := show _ = _ by rw [HN.out]; unfold isKid; rw [hlv]; simp [hp]
          have hb : (x.par == p) = true := by simp [hp]
          clear hlv hp
          go_wp2_with (at_builtin; refine Mem.wp_app (M1.out.skip _) 1 rfl rfl _ _ _ rfl _ 8 Try.underlying22 info_int rfl (by decide) inC_len inC_one (k : Int) ⟨wr.heap.size, 0, none⟩ 1 rfl rfl (cells_new _ (by simp) _ _) ln HLN.out (by omega) (by decide) ?_; intro g4 cp4 w4 M4; have M5 := Lib.hid M4; clear M4)
          go_roundw
          case rel => exact ⟨k + 1, ln + 1, _, _, by go_num, by omega, rfl, by rw [HS.out, List.length_append, HLN.out]; rfl, by rw [HS.out]; exact M5.out⟩
          case measure => (simp [intOf]) <;> omega
        · have HS : Hid (kidsTo T.nodes p (k + 1) = kidsTo T.nodes p k) := show _ = _ by rw [HN.out]; unfold isKid; simp [hp]
          have hb : (x.par == p) = false := by simp [hp]
          clear hlv hp
          go_wp2
          go_roundw
          case rel => exact ⟨k + 1, ln, B, cp, by go_num, by omega, rfl, by rw [HS.out]; exact HLN.out, by rw [HS.out]; exact M1.out⟩
          case measure => (simp [intOf]) <;> omega
    · obtain rfl : nn = k := by omega
      rw [← HE.out] at M1
      go_wp2
      go_ret
      exact Mks.mk (M1.out.row 1 rfl) M1.out.held
set_option maxHeartbeats 2000000 in
theorem rfind_any (Ab : Option Addr) (nb cb : Nat) (An : Option Addr) (nn cn : Nat) (T : Tr) (nm : ByteArray) (w : World) (h : TrR w Ab nb An nn T) (hn : (nn : Int) ≤ 1000000) (hnm : ¬ nm.size = 0) :
    Calls Try.prog 28 #[.agg #[.slice Ab nb cb, .slice An nn cn], .string nm] w fun e w' => e = .returned (.tuple #[.int .i64 (findR T.nodes nm).1, .bool (findR T.nodes nm).2]) ∧ Held w w' := by
  have HT := Lib.hid h
  have HE : Hid (find T.nodes nm = findTo T.nodes nm nn) := show _ = _ by unfold find; rw [h.nn]
  have M0 := Lib.hid ((Mem.start w).alloc #[.slice Ab nb cb, .slice An nn cn] 27)
  have hne := nm_empty hnm
  clear h hnm
  go_enter Try.func28, Try.ntmps28
  go_wp2
  go_loopw [6] (fun i wr => ∃ k : Nat, i = .int .i64 k ∧ k ≤ nn ∧ findTo T.nodes nm k = none ∧ Mem w wr [.box w.heap.size #[.slice Ab nb cb, .slice An nn cn] 27]) (fun i _ => nn - (intOf i).toNat)
  case atStart => exact ⟨0, rfl, Nat.zero_le _, rfl, M0.out⟩
  case round =>
    obtain ⟨k, rfl, hk, hno, M⟩ := hrel
    have M1 := Lib.hid M
    have HNO := Lib.hid hno
    clear M M0 hno
    obtain ⟨⟨u0, u1⟩, _, ult⟩ := M1.out.box2 0 rfl
    by_cases hlt : (k : Int) < nn
    · obtain ⟨b, off, x, A, n, cap, rfl, lb, hx, x0, x1, x2, x3, _⟩ := HT.out.at_ M1.out.held (k := k) (by omega)
      have HN := Lib.hid (findTo_next hx HNO.out)
      have hlb := lt_of_cell x0
      simp only at hlb
      have hq := nm_eq x.nm nm
      clear hx
      by_cases he : x.nm = nm
      · rw [decide_eq_true he] at hq
        have HP : Hid (findR T.nodes nm = ((k : Int), true)) := show _ = _ by
          have := HN.out
          rw [if_pos he] at this
          unfold findR
          rw [HE.out, findTo_stay this nn (by omega)]
        clear he
        go_wp2
        go_ret2
        exact ⟨ret_ib HP.out, M1.out.held⟩
      · rw [decide_eq_false he] at hq
        have HN2 : Hid (findTo T.nodes nm (k + 1) = none) := show _ = _ by rw [HN.out, if_neg he]
        clear he
        go_wp2
        go_roundw
        case rel => exact ⟨k + 1, by go_num, by omega, HN2.out, M1.out⟩
        case measure => (simp [intOf]) <;> omega
    · obtain rfl : nn = k := by omega
      have HP : Hid (findR T.nodes nm = (0, false)) := show _ = _ by unfold findR; rw [HE.out, HNO.out]
      go_wp2
      go_ret2
      exact ⟨ret_ib HP.out, M1.out.held⟩
end Sn
end Go.Proofs.Ytncgihbnfmpdbaa

set_option linter.unusedVariables false
set_option linter.unusedSimpArgs false
set_option maxRecDepth 100000
namespace Go.Proofs.Ytncgihbnfmpdbaa
open Go.RowKit Go.BigFrame
namespace Sn
set_option maxHeartbeats 2000000 in
theorem rdeltas_any (A : Option Addr) (n cap : Nat) (ds : List Dl) (N : Nat) (w : World) (h : Sl 2 dlC w A n ds) (hd : DsOk ds N) (hn : (n : Int) ≤ 1000000) :
    Calls Try.prog 51 #[.slice A n cap, .int .i64 N] w fun e w' => e = .returned (.bool true) ∧ Held w w' := by
  have HS := Lib.hid h
  have HD := Lib.hid hd
  clear h hd
  go_enter Try.func51, Try.ntmps51
  go_wp2
  go_loopw [5] (fun i wr => ∃ k : Nat, i = .int .i64 k ∧ k ≤ n ∧ Held w wr) (fun i _ => n - (intOf i).toNat)
  case atStart => exact ⟨0, rfl, Nat.zero_le _, Held.refl _⟩
  case round =>
    obtain ⟨k, rfl, hk, hw⟩ := hrel
    have HW := Lib.hid hw
    clear hw
    by_cases hlt : (k : Int) < n
    · obtain ⟨b, off, d, rfl, lb, hd, x0, x1⟩ := dl_at HS.out HW.out (k := k) (by omega)
      have hlb := lt_of_cell x0
      simp only at hlb
      have ha := HD.out.all d (List.mem_of_getElem? hd)
      have h0 : decide (d.b < 0) = false := by simp; omega
      have h1 : decide ((N : Int) ≤ d.b) = false := by simp; omega
      have h2 : ((d.s.size : Int) != 128) = false := by rw [ha.2.2]; rfl
      have s0 : (0 : Int) ≤ k := by omega
      have HDD := Lib.hid hd
      clear ha hd
      by_cases hk0 : k = 0
      · have h3 : decide ((0 : Int) < (k : Int)) = false := by simp; omega
        have h3n : decide (0 < k) = false := by simp; omega
        clear hk0
        go_wp2_with fail
        go_big_quiet (fail)
        go_wp2
        go_roundw
        case rel => exact ⟨k + 1, by go_num, by omega, HW.out.step ((Held.refl wr).drewN _)⟩
        case measure => (simp [intOf]) <;> omega
      · obtain ⟨j, rfl⟩ : ∃ j, k = j + 1 := ⟨k - 1, by omega⟩
        obtain ⟨b', off', e, hA, lb', he, y0, y1⟩ := dl_at HS.out HW.out (k := j) (by omega)
        injection hA with hA
        injection hA with hA hA2
        subst hA hA2
        have h3 : decide ((0 : Int) < ((j + 1 : Nat) : Int)) = true := decide_eq_true (by omega)
        have h3n : decide (0 < j + 1) = true := decide_eq_true (by omega)
        have hlte : e.b < d.b := by
          obtain ⟨hj, rfl⟩ := List.getElem?_eq_some_iff.1 he
          obtain ⟨hj2, hj3⟩ := List.getElem?_eq_some_iff.1 HDD.out
          have := List.pairwise_iff_getElem.1 HD.out.sorted j (j + 1) hj hj2 (by omega)
          rw [hj3] at this; exact this
        have h4 : decide (d.b ≤ e.b) = false := by simp; omega
        have s1 : ((j + 1 : Nat) : Int) - 1 = (j : Int) := by omega
        have s2 : (0 : Int) ≤ (j : Int) := by omega
        have s3 : (j : Int) < n := by omega
        clear he
        go_wp2_with fail
        go_big_quiet (fail)
        go_wp2
        go_roundw
        case rel => exact ⟨j + 1 + 1, by go_num, by omega, HW.out.step ((Held.refl wr).drewN _)⟩
        case measure => (simp [intOf]) <;> omega
    · go_wp2
      go_ret
      exact ⟨rfl, HW.out⟩
theorem ex_at {T : Tr} {p : Int} (h : ex T.nodes p = true) {i : Nat} {z : Nd} (hp : p = i) (hz : T.nodes[i]? = some z) : live z = true := by
  obtain ⟨j, y, e, hy, hl⟩ := ex_iff.1 h
  obtain rfl : i = j := by omega
  rw [hz] at hy; injection hy with hy; subst hy; exact hl
set_option maxHeartbeats 8000000 in
theorem rvalid_any (Ab : Option Addr) (nb cb : Nat) (An : Option Addr) (nn cn : Nat) (T : Tr) (w : World) (h : TrR w Ab nb An nn T) (hv : Ok T) :
    Calls Try.prog 34 #[.agg #[.slice Ab nb cb, .slice An nn cn]] w fun e w' => e = .returned (.bool true) ∧ Held w w' := by
  have HT := Lib.hid h
  have hnn := h.nn
  have hbl : T.base.length = nb := h.bs.1
  have hb1 := hv.base1
  have hb2 := hv.base2
  have hn12 := hv.nods
  have M0 := Lib.hid ((Mem.start w).alloc #[.slice Ab nb cb, .slice An nn cn] 27)
  have HV := Lib.hid hv
  have HBL := Lib.hid hbl
  rw [hbl] at hb1 hb2
  rw [hnn] at hn12
  have j0 : ¬ (nb : Int) < 1 := by omega
  have j1 : ¬ (64 : Int) < (nb : Int) := by omega
  have j2 : ¬ (12 : Int) < (nn : Int) := by omega
  have HNN := Lib.hid hnn
  clear h hv hbl hnn
  go_enter Try.func34, Try.ntmps34
  go_wp2
  go_loopw [3] (fun i wr => ∃ k : Nat, i = .int .i64 k ∧ k ≤ nb ∧ Held (w.alloc (.cells #[.slice Ab nb cb, .slice An nn cn] 27)) wr) (fun i _ => nb - (intOf i).toNat)
  case atStart => exact ⟨0, rfl, Nat.zero_le _, Held.refl _⟩
  case round =>
    obtain ⟨k, rfl, hk, hw⟩ := hrel
    have HW := Lib.hid hw
    have M1 := Lib.hid (M0.out.keep hw)
    clear hw
    obtain ⟨⟨u0, u1⟩, _, ult⟩ := M1.out.box2 0 rfl
    by_cases hlt : (k : Int) < nb
    · obtain ⟨b, off, s, rfl, lb, hs, x0⟩ := st_at HT.out.bs M1.out.held (k := k) (by omega)
      have hz : ((s.size : Int) != 128) = false := by rw [HV.out.base3 s (List.mem_of_getElem? hs)]; rfl
      clear hs
      go_wp2
      go_roundw
      case rel => exact ⟨k + 1, by go_num, by omega, HW.out⟩
      case measure => (simp [intOf]) <;> omega
    · go_wp2
      obtain ⟨wA, hwA⟩ : ∃ wA, wA = wr := ⟨_, rfl⟩
      rw [← hwA] at M1 u0 u1 ult ⊢
      clear hwA HW
      go_loopw [4] (fun i w2 => ∃ k : Nat, i = .int .i64 k ∧ k ≤ nn ∧ Held wA w2) (fun i _ => nn - (intOf i).toNat)
      case atStart => exact ⟨0, rfl, Nat.zero_le _, Held.refl _⟩
      case round =>
        obtain ⟨m, rfl, hm, hw⟩ := hrel
        have M2 := Lib.hid (M1.out.keep hw)
        have HW := Lib.hid hw
        clear hw u0 u1 ult
        obtain ⟨⟨u0, u1⟩, _, ult⟩ := M2.out.box2 0 rfl
        by_cases hlm : (m : Int) < nn
        · obtain ⟨b, off, x, A, dn, dcap, rfl, lb, hx, x0, x1, x2, x3, hds, _⟩ := HT.out.at_ M2.out.held (k := m) (by omega)
          have HX := Lib.hid hx
          have HN := Lib.hid (HV.out.node m x hx)
          have hlb := lt_of_cell x0
          simp only at hlb
          have HDS := Lib.hid hds
          by_cases hd : x.nm.size = 0
          · obtain ⟨d1, d2, d3⟩ := HN.out.dead hd
            have hz := size_zero hd
            have hdn : dn = 0 := by rw [← hds.1, d3]; rfl
            subst hdn
            rw [d1] at x1
            rw [d2] at x2
            clear hds d1 d2 d3 hx
            go_wp2
            go_roundw
            case rel => exact ⟨m + 1, by go_num, by omega, HW.out.alloc _⟩
            case measure => (simp [intOf]) <;> omega
          · have hp := HN.out.par hd
            have hz := nm_empty hd
            have hnm := HN.out.name
            have hns : ¬ (12 : Int) < (x.nm.size : Int) := by omega
            have hdl := ds_len HN.out.ds
            rw [HBL.out, hds.1] at hdl
            have HVD : Hid (DsOk x.ds nb) := show DsOk x.ds nb by rw [← HBL.out]; exact HN.out.ds
            have HRD := Lib.hid (fun w' (q : Held w w') => rdeltas_any A dn dcap x.ds nb w' (HDS.out.held q) HVD.out (by omega))
            have M3 := Lib.hid (M2.out.alloc #[.string x.nm, .int .i64 x.par, .bool x.op, .slice A dn dcap] 36)
            have HPX := Lib.hid hp
            have HD := Lib.hid hd
            obtain ⟨p, hpe⟩ : ∃ p, x.par = p := ⟨_, rfl⟩
            rw [hpe] at hp x1 M3 HPX
            have hxp : p < (m : Int) := hp.2.1
            have hpp : ¬ p < -1 := by omega
            have hpi : ¬ (m : Int) ≤ p := by omega
            clear hds hx hp hpe hd
            by_cases hp0 : 0 ≤ p
            · obtain ⟨pi, rfl⟩ := Int.eq_ofNat_of_zero_le hp0
              obtain ⟨b', off', z, A', dn', dcap', hA, lb', hz', y0, y1, y2, y3, _⟩ := HT.out.at_ M2.out.held (k := pi) (by omega)
              injection hA with hA
              injection hA with hA hA2
              subst hA hA2
              have hlz := live_iff.1 (ex_at (HPX.out.2.2 hp0) rfl hz')
              have hne := nm_empty hlz
              have hpn : (pi : Int) < nn := by omega
              clear hz' hlz y1 y2 y3
              go_wp2_with (go_at_call 51; refine (HRD.out _ M3.out.held).mono ?_; rintro e w4 ⟨rfl, h4⟩; have M4 := Lib.hid (M3.out.keep h4); have K4 := Lib.hid (((Held.refl wr).alloc _).step h4); clear h4)
              go_loopw [6] (fun i w2 => ∃ k : Nat, i = .int .i64 k ∧ k ≤ m ∧ Held w4 w2) (fun i _ => m - (intOf i).toNat)
              case atStart => exact ⟨0, rfl, Nat.zero_le _, Held.refl _⟩
              case round =>
                obtain ⟨q, rfl, hq, hw⟩ := hrel
                have M5 := Lib.hid (M4.out.keep hw)
                have HW5 := Lib.hid hw
                clear hw
                obtain ⟨⟨v0, v1⟩, _, vlt⟩ := M5.out.box2 0 rfl
                obtain ⟨⟨r0, r1, r2, r3⟩, _, rlt⟩ := M5.out.box4 1 rfl
                by_cases hlq : (q : Int) < m
                · obtain ⟨b', off', z, A', dn', dcap', hA, lb', hz', y0, y1, y2, y3, _⟩ := HT.out.at_ M5.out.held (k := q) (by omega)
                  injection hA with hA
                  injection hA with hA hA2
                  subst hA hA2
                  have hno : (z.nm.toList == x.nm.toList) = false := by rw [nm_eq, decide_eq_false_iff_not]; exact HN.out.once HD.out q z (by omega) hz'
                  have hlb' := lt_of_cell y0
                  simp only at hlb'
                  have hqn : (q : Int) < nn := by omega
                  have hq0 : (0 : Int) ≤ q := by omega
                  clear hz' y1 y2 y3 r1 r2 r3
                  go_wp2_with fail
                  go_big_quiet (fail)
                  go_wp2
                  go_roundw
                  case rel => exact ⟨q + 1, by go_num, by omega, HW5.out.step ((Held.refl _).drewN _)⟩
                  case measure => (simp [intOf]) <;> omega
                · go_wp2
                  go_roundw
                  case rel => exact ⟨m + 1, by go_num, by omega, HW.out.step (K4.out.step HW5.out)⟩
                  case measure => (simp [intOf]) <;> omega
            · go_wp2_with (go_at_call 51; refine (HRD.out _ M3.out.held).mono ?_; rintro e w4 ⟨rfl, h4⟩; have M4 := Lib.hid (M3.out.keep h4); have K4 := Lib.hid (((Held.refl wr).alloc _).step h4); clear h4)
              go_loopw [6] (fun i w2 => ∃ k : Nat, i = .int .i64 k ∧ k ≤ m ∧ Held w4 w2) (fun i _ => m - (intOf i).toNat)
              case atStart => exact ⟨0, rfl, Nat.zero_le _, Held.refl _⟩
              case round =>
                obtain ⟨q, rfl, hq, hw⟩ := hrel
                have M5 := Lib.hid (M4.out.keep hw)
                have HW5 := Lib.hid hw
                clear hw
                obtain ⟨⟨v0, v1⟩, _, vlt⟩ := M5.out.box2 0 rfl
                obtain ⟨⟨r0, r1, r2, r3⟩, _, rlt⟩ := M5.out.box4 1 rfl
                by_cases hlq : (q : Int) < m
                · obtain ⟨b', off', z, A', dn', dcap', hA, lb', hz', y0, y1, y2, y3, _⟩ := HT.out.at_ M5.out.held (k := q) (by omega)
                  injection hA with hA
                  injection hA with hA hA2
                  subst hA hA2
                  have hno : (z.nm.toList == x.nm.toList) = false := by rw [nm_eq, decide_eq_false_iff_not]; exact HN.out.once HD.out q z (by omega) hz'
                  have hlb' := lt_of_cell y0
                  simp only at hlb'
                  have hqn : (q : Int) < nn := by omega
                  have hq0 : (0 : Int) ≤ q := by omega
                  clear hz' y1 y2 y3 r1 r2 r3
                  go_wp2_with fail
                  go_big_quiet (fail)
                  go_wp2
                  go_roundw
                  case rel => exact ⟨q + 1, by go_num, by omega, HW5.out.step ((Held.refl _).drewN _)⟩
                  case measure => (simp [intOf]) <;> omega
                · go_wp2
                  go_roundw
                  case rel => exact ⟨m + 1, by go_num, by omega, HW.out.step (K4.out.step HW5.out)⟩
                  case measure => (simp [intOf]) <;> omega
        · go_wp2
          obtain ⟨wB, hwB⟩ : ∃ wB, wB = wr := ⟨_, rfl⟩
          rw [← hwB] at M2 u0 u1 ult ⊢
          clear hwB HW
          go_loopw [7] (fun i w2 => ∃ k : Nat, i = .int .i64 k ∧ k ≤ nn ∧ Held wB w2) (fun i _ => nn - (intOf i).toNat)
          case atStart => exact ⟨0, rfl, Nat.zero_le _, Held.refl _⟩
          case round =>
            obtain ⟨q, rfl, hq, hw⟩ := hrel
            have M3 := Lib.hid (M2.out.keep hw)
            have HW := Lib.hid hw
            clear hw u0 u1 ult
            obtain ⟨⟨u0, u1⟩, _, ult⟩ := M3.out.box2 0 rfl
            by_cases hlq : (q : Int) < nn
            · obtain ⟨b, off, x, A, dn, dcap, rfl, lb, hx, x0, x1, x2, x3, hds, _⟩ := HT.out.at_ M3.out.held (k := q) (by omega)
              have HN := Lib.hid (HV.out.node q x hx)
              have hlb := lt_of_cell x0
              simp only at hlb
              have hq0 : (0 : Int) ≤ q := by omega
              clear hds hx
              by_cases hd : x.nm.size = 0
              · have hz := size_zero hd
                clear hd
                go_wp2_with fail
                go_big_quiet (fail)
                go_wp2
                go_roundw
                case rel => exact ⟨q + 1, by go_num, by omega, HW.out.step ((Held.refl _).drewN _)⟩
                case measure => (simp [intOf]) <;> omega
              · have hz := nm_empty hd
                have HOP := Lib.hid (HN.out.op hd)
                have HKI := Lib.hid (fun w' (k : Held w w') => rkids_any Ab nb cb (some ⟨b, off, none⟩) nn cn T q w' (HT.out.held k) (by omega))
                obtain ⟨K, hK⟩ : ∃ K, kids T.nodes q = K := ⟨_, rfl⟩
                rw [hK] at HOP HKI
                obtain ⟨ln, hln⟩ : ∃ n, K.length = n := ⟨_, rfl⟩
                have HLN := Lib.hid hln
                have hqe : ((ln : Int) == 0) = x.op := by
                  rw [HOP.out, ← hln]
                  cases K with
                  | nil => rfl
                  | cons a l => simp; omega
                clear hln hK hd
                go_wp2_with fail
                go_region_held3 (fun w' => w'.cell? ⟨w.heap.size, 0, none⟩ = some (.slice Ab nb cb) ∧ w'.cell? ⟨w.heap.size, 1, none⟩ = some (.slice (some ⟨b, off, none⟩) nn cn) ∧ w'.cell? ⟨b, off + q * 4, none⟩ = some (.string x.nm) ∧ w'.cell? ⟨b, off + q * 4 + 2, none⟩ = some (.bool x.op) ∧ Held wr w')
                  ((repeat' refine And.intro ?_ ?_) <;> first | exact u0 | exact u1 | exact x0 | exact x2 | exact (Held.refl _).drew | exact Held.cell (by assumption) u0 | exact Held.cell (by assumption) u1 | exact Held.cell (by assumption) x0 | exact Held.cell (by assumption) x2 | exact (by assumption))
                  (first | (go_at_call 49; refine (HKI.out _ (M3.out.held.step (Held.refl _).drew)).mono ?_; rintro e w6 ⟨A6, cap6, rfl, hc6, ho6, h6⟩; rw [HLN.out] at hc6 ⊢; have k6 : Held wr w6 := (Held.refl _).drew.step h6; clear ho6) | fail)
                go_wp2
                go_roundw
                case rel => exact ⟨q + 1, by go_num, by omega, HW.out.step k6⟩
                case measure => (simp [intOf]) <;> omega
            · go_wp2
              go_ret
              exact ⟨rfl, M3.out.held⟩
end Sn
end Go.Proofs.Ytncgihbnfmpdbaa

set_option linter.unusedVariables false
set_option linter.unusedSimpArgs false
set_option maxRecDepth 100000
namespace Go.Proofs.Ytncgihbnfmpdbaa
open Go.RowKit Go.BigFrame
namespace Sn
/-- What delta hands back. -/
def lookR (ds : List Dl) (b : Int) : ByteArray × Bool := match look ds b with | some s => (s, true) | none => (⟨#[]⟩, false)
theorem lookR_some {ds : List Dl} {b : Int} {s : ByteArray} (h : look ds b = some s) : lookR ds b = (s, true) := by unfold lookR; rw [h]
theorem lookR_none {ds : List Dl} {b : Int} (h : look ds b = none) : lookR ds b = (⟨#[]⟩, false) := by unfold lookR; rw [h]
set_option maxHeartbeats 2000000 in
theorem rdelta_any (Ab : Option Addr) (nb cb : Nat) (An : Option Addr) (nn cn : Nat) (T : Tr) (i : Nat) (blk : Int) (x : Nd) (w : World) (h : TrR w Ab nb An nn T) (hx : T.nodes[i]? = some x) (hdl : (x.ds.length : Int) ≤ 64) :
    Calls Try.prog 50 #[.agg #[.slice Ab nb cb, .slice An nn cn], .int .i64 i, .int .i64 blk] w fun e w' => e = .returned (.tuple #[.string (lookR x.ds blk).1, .bool (lookR x.ds blk).2]) ∧ Held w w' := by
  have hin : i < nn := by rw [← h.nn]; exact (List.getElem?_eq_some_iff.1 hx).1
  have M0 := Lib.hid ((Mem.start w).alloc #[.slice Ab nb cb, .slice An nn cn] 27)
  obtain ⟨b, off, x', A, dn, dcap, rfl, lb, hx', x0, x1, x2, x3, hds, hnil⟩ := h.at_ M0.out.held (k := i) hin
  obtain rfl : x = x' := by rw [hx] at hx'; injection hx'
  have HDS := Lib.hid hds
  rw [hds.1] at hdl
  have hin2 : (i : Int) < nn := by omega
  have hlb := lt_of_cell x3
  simp only at hlb
  have hi0 : (0 : Int) ≤ i := by omega
  obtain ⟨⟨u0, u1⟩, _, ult⟩ := M0.out.box2 0 rfl
  obtain ⟨wA, hwA⟩ : ∃ q, q = w.alloc (.cells #[.slice Ab nb cb, .slice (some ⟨b, off, none⟩) nn cn] 27) := ⟨_, rfl⟩
  have M1 := Lib.hid M0.out
  rw [← hwA] at M1 x3 u0 u1 ult hlb
  clear h hx hx' hds x0 x1 x2 hnil M0
  go_enter Try.func50, Try.ntmps50
  go_wp2
  rw [← hwA]
  clear hwA
  go_loopw [8] (fun j wr => ∃ k : Nat, j = .int .i64 k ∧ k ≤ dn ∧ look (x.ds.take k) blk = none ∧ Held wA wr) (fun j _ => dn - (intOf j).toNat)
  case atStart => exact ⟨0, rfl, Nat.zero_le _, rfl, Held.refl _⟩
  case round =>
    obtain ⟨k, rfl, hk, hno, hw⟩ := hrel
    have HW := Lib.hid hw
    have HNO := Lib.hid hno
    replace u0 := hw.cell u0
    replace u1 := hw.cell u1
    replace x3 := hw.cell x3
    have hlb9 := lt_of_cell x3
    simp only at hlb9
    clear hw hno
    by_cases hlt2 : (k : Int) < dn
    · obtain ⟨b2, o2, d, rfl, lb2, hd, y0, y1⟩ := dl_at HDS.out (M1.out.held.step HW.out) (k := k) (by omega)
      have HLN := Lib.hid (look_next hd HNO.out)
      have hlb2 := lt_of_cell y0
      simp only at hlb2
      clear hd
      by_cases he : d.b = blk
      · have hq : (d.b == blk) = true := by simp [he]
        have HP : Hid (lookR x.ds blk = (d.s, true)) := show _ = _ by
          have h1 := HLN.out
          rw [if_pos he] at h1
          exact lookR_some (look_take h1)
        clear he
        go_wp2
        go_ret2
        exact ⟨ret_sb HP.out, M1.out.held.step HW.out⟩
      · have hq : (d.b == blk) = false := by simp [he]
        have HN2 : Hid (look (x.ds.take (k + 1)) blk = none) := show _ = _ by rw [HLN.out, if_neg he]
        clear he
        go_wp2
        go_roundw
        case rel => exact ⟨k + 1, by go_num, by omega, HN2.out, HW.out⟩
        case measure => (simp [intOf]) <;> omega
    · obtain rfl : dn = k := by omega
      have HP : Hid (lookR x.ds blk = (⟨#[]⟩, false)) := show _ = _ by
        have h1 := HNO.out
        rw [List.take_of_length_le (by rw [HDS.out.1]; exact Nat.le_refl _)] at h1
        exact lookR_none h1
      go_wp2
      go_ret2
      exact ⟨ret_sb HP.out, M1.out.held.step HW.out⟩
set_option maxHeartbeats 2000000 in
theorem rsees_any (Ab : Option Addr) (nb cb : Nat) (An : Option Addr) (nn cn : Nat) (T : Tr) (n0 : Int) (blk : Nat) (w : World) (h : TrR w Ab nb An nn T) (hk : Ok T) (hn0 : -1 ≤ n0) (hn1 : n0 < nn) (hb : blk < nb) :
    Calls Try.prog 47 #[.agg #[.slice Ab nb cb, .slice An nn cn], .int .i64 n0, .int .i64 blk] w fun e w' => e = .returned (.string (sees T n0 blk)) ∧ Held w w' := by
  have HT := Lib.hid h
  have HK := Lib.hid hk
  have M0 := Lib.hid ((Mem.start w).alloc #[.slice Ab nb cb, .slice An nn cn] 27)
  obtain ⟨S, hS⟩ : ∃ S, sees T n0 blk = S := ⟨_, rfl⟩
  have HS := Lib.hid hS
  rw [hS]
  have hnn12 : nn ≤ 12 := by have := hk.nods; rw [h.nn] at this; exact this
  clear h hk hS
  go_enter Try.func47, Try.ntmps47
  go_wp2
  go_loopw [1] (fun i wr => ∃ n : Int, i = .int .i64 n ∧ -1 ≤ n ∧ n < nn ∧ sees T n blk = S ∧ Mem w wr [.box w.heap.size #[.slice Ab nb cb, .slice An nn cn] 27]) (fun i _ => (intOf i + 1).toNat)
  case atStart => exact ⟨n0, rfl, hn0, hn1, HS.out, M0.out⟩
  case round =>
    obtain ⟨n, rfl, hm1, hlt, hse, M⟩ := hrel
    have M1 := Lib.hid M
    have HSE := Lib.hid hse
    obtain ⟨⟨t0, t1⟩, tf, tlt⟩ := M.box2 0 rfl
    clear tf
    clear M M0 hse
    by_cases hneg : n < 0
    · obtain ⟨b, off, s, rfl, lb, hs, x0⟩ := st_at HT.out.bs M1.out.held (k := blk) hb
      have HP : Hid (S = s) := show _ = _ by
        rw [← HSE.out, sees_base _ _ hneg]
        unfold base
        rw [show ((blk : Int)).toNat = blk by omega, List.getD_eq_getElem?_getD, hs]; rfl
      have k0 : ¬ (blk : Int) < 0 := by omega
      have k1 : (blk : Int) < nb := by omega
      have k2 : ¬ 0 ≤ n := by omega
      clear hs
      go_wp2
      go_ret
      exact ⟨ret_s HP.out.symm, M1.out.held⟩
    · obtain ⟨i, rfl⟩ := Int.eq_ofNat_of_zero_le (by omega : 0 ≤ n)
      obtain ⟨b, off, x, A, dn, dcap, rfl, lb, hx, x0, x1, x2, x3, hds, _⟩ := HT.out.at_ M1.out.held (k := i) (by omega)
      have hpar := ok_par_lt HK.out hx
      have HAT := Lib.hid (sees_at HK.out hx (blk : Int))
      have HDL := Lib.hid (rdelta_any Ab nb cb (some ⟨b, off, none⟩) nn cn T i blk x wr (HT.out.held M1.out.held) hx (ok_dl HK.out i x hx))
      have hlb := lt_of_cell x1
      simp only at hlb
      have i0 : (0 : Int) ≤ i := by omega
      clear hx hds x0 x2 x3
      cases hlk : look x.ds blk with
      | some s =>
        rw [lookR_some hlk] at HDL
        have HP : Hid (S = s) := show _ = _ by rw [← HSE.out, HAT.out, hlk]
        clear hlk
        go_wp2_with (go_at_call 50; refine HDL.out.mono ?_; rintro e w4 ⟨rfl, h4⟩)
        go_ret
        exact ⟨ret_s HP.out.symm, M1.out.held.step h4⟩
      | none =>
        rw [lookR_none hlk] at HDL
        have HP : Hid (sees T x.par blk = S) := show _ = _ by rw [← HSE.out, HAT.out, hlk]
        clear hlk
        go_wp2_with (go_at_call 50; refine HDL.out.mono ?_; rintro e w4 ⟨rfl, h4⟩; have M4 := Lib.hid (M1.out.keep h4); replace x1 := h4.cell x1; have hlb4 := Nat.lt_of_lt_of_le hlb h4.le; obtain ⟨⟨t0, t1⟩, _, tlt⟩ := M4.out.box2 0 rfl)
        go_roundw
        case rel => exact ⟨x.par, rfl, by omega, by omega, HP.out, M4.out⟩
        case measure => (simp [intOf]) <;> omega
set_option maxHeartbeats 2000000 in
theorem rsize_any (Ab : Option Addr) (nb cb : Nat) (An : Option Addr) (nn cn : Nat) (T : Tr) (w : World) (h : TrR w Ab nb An nn T) (hv : Ok T) :
    Calls Try.prog 35 #[.agg #[.slice Ab nb cb, .slice An nn cn]] w fun e w' => e = .returned (.int .i64 (sizeTo T.nodes T.nodes.length)) ∧ Held w w' := by
  have M0 := Lib.hid ((Mem.start w).alloc #[.slice Ab nb cb, .slice An nn cn] 27)
  have HT := Lib.hid h
  have hnn := h.nn
  have hn12 := hv.nods
  have HD := Lib.hid (ok_dl hv)
  rw [hnn] at hn12 ⊢
  clear h hv
  go_enter Try.func35, Try.ntmps35
  go_wp2
  go_loopw [3, 4] (fun v i wr => ∃ (k s : Nat), i = .int .i64 k ∧ k ≤ nn ∧ v = .int .i64 s ∧ sizeTo T.nodes k = s ∧ s ≤ 64 * k ∧ Mem w wr [.box w.heap.size #[.slice Ab nb cb, .slice An nn cn] 27]) (fun _ i _ => nn - (intOf i).toNat)
  case atStart => exact ⟨0, 0, rfl, Nat.zero_le _, rfl, rfl, Nat.le_refl _, M0.out⟩
  case round =>
    obtain ⟨k, s, rfl, hk, rfl, hs, hs64, hM⟩ := hrel
    have M1 := Lib.hid hM
    have HS := Lib.hid hs
    clear hM hs M0
    obtain ⟨⟨t0, t1⟩, _, tlt⟩ := M1.out.box2 0 rfl
    by_cases hlt : (k : Int) < nn
    · obtain ⟨b, off, x, A, dn, dcap, rfl, lb, hx, x0, x1, x2, x3, hds, hnil⟩ := HT.out.at_ M1.out.held (k := k) (by omega)
      have HX := Lib.hid (sizeTo_next hx)
      have hdl := HD.out k x hx
      rw [hds.1] at HX hdl
      have hlb := lt_of_cell x0
      simp only at hlb
      clear hx hds hnil x0 x1 x2
      have hs1 : (s : Int) + (dn : Int) ≤ 1000 := by omega
      have hs2 : (s : Int) ≤ 1000 := by omega
      have hs3 : (dn : Int) ≤ 1000 := by omega
      go_wp2
      go_roundw
      case rel => exact ⟨k + 1, s + dn, by go_num, by omega, by go_num, by rw [HX.out, HS.out], by omega, M1.out⟩
      case measure => (simp [intOf]) <;> omega
    · obtain rfl : nn = k := by omega
      have HQ : Hid (sizeTo T.nodes nn = s) := HS
      go_wp2
      go_ret
      exact ⟨by rw [HQ.out]; rfl, M1.out.held⟩
end Sn
end Go.Proofs.Ytncgihbnfmpdbaa

set_option linter.unusedVariables false
set_option linter.unusedSimpArgs false
set_option maxRecDepth 100000
namespace Go.Proofs.Ytncgihbnfmpdbaa
open Go.RowKit Go.BigFrame
namespace Sn
set_option maxHeartbeats 4000000 in
theorem rread_any (Ab : Option Addr) (nb cb : Nat) (An : Option Addr) (nn cn : Nat) (T : Tr) (n b : Int) (w : World) (h : TrR w Ab nb An nn T) (hv : Ok T) :
    Calls Try.prog 30 #[.agg #[.slice Ab nb cb, .slice An nn cn], .int .i64 n, .int .i64 b] w fun e w' => e = .returned (.tuple #[.string (readR T n b).1, .bool (readR T n b).2]) ∧ Held w w' := by
  have M0 := Lib.hid ((Mem.start w).alloc #[.slice Ab nb cb, .slice An nn cn] 27)
  have HVA := Lib.hid (fun w' (q : Held w w') => rvalid_any Ab nb cb An nn cn T w' (h.held q) hv)
  have HEX := Lib.hid (fun w' (q : Held w w') => rexists_any Ab nb cb An nn cn T n w' (h.held q))
  have hnn := h.nn
  have hbl := h.bs.1
  obtain ⟨hb, hhb⟩ : ∃ q, hasB T n = q := ⟨_, rfl⟩
  cases hb
  · have HP := Lib.hid (readR_no (T := T) (n := n) (b := b) (by rw [hhb]; simp))
    obtain ⟨hn1, hxf⟩ : n ≠ -1 ∧ ex T.nodes n = false := by
      unfold hasB at hhb; rw [Bool.or_eq_false_iff, decide_eq_false_iff_not] at hhb; exact hhb
    have hb1 : (n != -1) = true := by simp [hn1]
    rw [hxf] at HEX
    clear h hv hhb hxf hn1
    go_enter Try.func30, Try.ntmps30
    go_wp2_with (first | (go_at_call 34; refine (HVA.out _ M0.out.held).mono ?_; rintro e w1 ⟨rfl, h1⟩; have M1 := Lib.hid (M0.out.keep h1); obtain ⟨⟨u0, u1⟩, _, ult⟩ := M1.out.box2 0 rfl) | (go_at_call 45; refine (HEX.out _ M1.out.held).mono ?_; rintro e w2 ⟨rfl, h2⟩; have M2 := Lib.hid (M1.out.keep h2); obtain ⟨⟨v0, v1⟩, _, vlt⟩ := M2.out.box2 0 rfl))
    go_ret2
    exact ⟨ret_sb HP.out, M2.out.held⟩
  · have hr := hasB_range hhb
    rw [hnn] at hr
    by_cases hm1 : n = -1
    · have hb1 : (n != -1) = false := by simp [hm1]
      clear hm1
      by_cases h0 : b < 0
      · have HP := Lib.hid (readR_no (T := T) (n := n) (b := b) (by omega))
        clear h hv hhb
        go_enter Try.func30, Try.ntmps30
        go_wp2_with (first | (go_at_call 34; refine (HVA.out _ M0.out.held).mono ?_; rintro e w1 ⟨rfl, h1⟩; have M1 := Lib.hid (M0.out.keep h1); obtain ⟨⟨u0, u1⟩, _, ult⟩ := M1.out.box2 0 rfl) | fail)
        go_ret2
        exact ⟨ret_sb HP.out, M1.out.held⟩
      obtain ⟨k, rfl⟩ := Int.eq_ofNat_of_zero_le (by omega : 0 ≤ b)
      by_cases h9 : (nb : Int) ≤ (k : Int)
      · have HP := Lib.hid (readR_no (T := T) (n := n) (b := k) (by omega))
        clear h hv hhb
        go_enter Try.func30, Try.ntmps30
        go_wp2_with (first | (go_at_call 34; refine (HVA.out _ M0.out.held).mono ?_; rintro e w1 ⟨rfl, h1⟩; have M1 := Lib.hid (M0.out.keep h1); obtain ⟨⟨u0, u1⟩, _, ult⟩ := M1.out.box2 0 rfl) | fail)
        go_ret2
        exact ⟨ret_sb HP.out, M1.out.held⟩
      have HP := Lib.hid (readR_yes (T := T) (n := n) (b := k) ⟨hhb, by omega, by omega⟩)
      have HSE := Lib.hid (fun w' (q : Held w w') => rsees_any Ab nb cb An nn cn T n k w' (h.held q) hv hr.1 hr.2 (by omega))
      clear h hv hhb
      go_enter Try.func30, Try.ntmps30
      go_wp2_with (first | (go_at_call 34; refine (HVA.out _ M0.out.held).mono ?_; rintro e w1 ⟨rfl, h1⟩; have M1 := Lib.hid (M0.out.keep h1); obtain ⟨⟨u0, u1⟩, _, ult⟩ := M1.out.box2 0 rfl) | (go_at_call 47; refine (HSE.out _ M1.out.held).mono ?_; rintro e w3 ⟨rfl, h3⟩))
      go_ret2
      exact ⟨ret_sb HP.out, M1.out.held.step h3⟩
    · have hb1 : (n != -1) = true := by simp [hm1]
      have hxt : ex T.nodes n = true := by unfold hasB at hhb; rw [decide_eq_false hm1] at hhb; exact hhb
      rw [hxt] at HEX
      clear hxt hm1
      by_cases h0 : b < 0
      · have HP := Lib.hid (readR_no (T := T) (n := n) (b := b) (by omega))
        clear h hv hhb
        go_enter Try.func30, Try.ntmps30
        go_wp2_with (first | (go_at_call 34; refine (HVA.out _ M0.out.held).mono ?_; rintro e w1 ⟨rfl, h1⟩; have M1 := Lib.hid (M0.out.keep h1); obtain ⟨⟨u0, u1⟩, _, ult⟩ := M1.out.box2 0 rfl) | (go_at_call 45; refine (HEX.out _ M1.out.held).mono ?_; rintro e w2 ⟨rfl, h2⟩; have M2 := Lib.hid (M1.out.keep h2); obtain ⟨⟨v0, v1⟩, _, vlt⟩ := M2.out.box2 0 rfl) | fail)
        go_ret2
        exact ⟨ret_sb HP.out, M2.out.held⟩
      obtain ⟨k, rfl⟩ := Int.eq_ofNat_of_zero_le (by omega : 0 ≤ b)
      by_cases h9 : (nb : Int) ≤ (k : Int)
      · have HP := Lib.hid (readR_no (T := T) (n := n) (b := k) (by omega))
        clear h hv hhb
        go_enter Try.func30, Try.ntmps30
        go_wp2_with (first | (go_at_call 34; refine (HVA.out _ M0.out.held).mono ?_; rintro e w1 ⟨rfl, h1⟩; have M1 := Lib.hid (M0.out.keep h1); obtain ⟨⟨u0, u1⟩, _, ult⟩ := M1.out.box2 0 rfl) | (go_at_call 45; refine (HEX.out _ M1.out.held).mono ?_; rintro e w2 ⟨rfl, h2⟩; have M2 := Lib.hid (M1.out.keep h2); obtain ⟨⟨v0, v1⟩, _, vlt⟩ := M2.out.box2 0 rfl) | fail)
        go_ret2
        exact ⟨ret_sb HP.out, M2.out.held⟩
      have HP := Lib.hid (readR_yes (T := T) (n := n) (b := k) ⟨hhb, by omega, by omega⟩)
      have HSE := Lib.hid (fun w' (q : Held w w') => rsees_any Ab nb cb An nn cn T n k w' (h.held q) hv hr.1 hr.2 (by omega))
      clear h hv hhb
      go_enter Try.func30, Try.ntmps30
      go_wp2_with (first | (go_at_call 34; refine (HVA.out _ M0.out.held).mono ?_; rintro e w1 ⟨rfl, h1⟩; have M1 := Lib.hid (M0.out.keep h1); obtain ⟨⟨u0, u1⟩, _, ult⟩ := M1.out.box2 0 rfl) | (go_at_call 45; refine (HEX.out _ M1.out.held).mono ?_; rintro e w2 ⟨rfl, h2⟩; have M2 := Lib.hid (M1.out.keep h2); obtain ⟨⟨v0, v1⟩, _, vlt⟩ := M2.out.box2 0 rfl) | (go_at_call 47; refine (HSE.out _ M2.out.held).mono ?_; rintro e w3 ⟨rfl, h3⟩))
      go_ret2
      exact ⟨ret_sb HP.out, M2.out.held.step h3⟩
set_option maxHeartbeats 4000000 in
theorem rview_any (Ab : Option Addr) (nb cb : Nat) (An : Option Addr) (nn cn : Nat) (T : Tr) (n : Int) (w : World) (h : TrR w Ab nb An nn T) (hv : Ok T) :
    Calls Try.prog 33 #[.agg #[.slice Ab nb cb, .slice An nn cn], .int .i64 n] w (VwTo T n w) := by
  have M0 := Lib.hid ((Mem.start w).alloc #[.slice Ab nb cb, .slice An nn cn] 27)
  have HVA := Lib.hid (fun w' (q : Held w w') => rvalid_any Ab nb cb An nn cn T w' (h.held q) hv)
  have HEX := Lib.hid (fun w' (q : Held w w') => rexists_any Ab nb cb An nn cn T n w' (h.held q))
  have hnn := h.nn
  have hbl := h.bs.1
  have hb2 := hv.base2
  rw [hbl] at hb2
  obtain ⟨hb, hhb⟩ : ∃ q, hasB T n = q := ⟨_, rfl⟩
  have HP := Lib.hid hhb
  cases hb
  · obtain ⟨hn1, hxf⟩ : n ≠ -1 ∧ ex T.nodes n = false := by
      unfold hasB at hhb; rw [Bool.or_eq_false_iff, decide_eq_false_iff_not] at hhb; exact hhb
    have hb1 : (n != -1) = true := by simp [hn1]
    rw [hxf] at HEX
    clear h hv hhb hxf hn1
    go_enter Try.func33, Try.ntmps33
    go_wp2_with (first | (go_at_call 34; refine (HVA.out _ M0.out.held).mono ?_; rintro e w1 ⟨rfl, h1⟩; have M1 := Lib.hid (M0.out.keep h1); obtain ⟨⟨u0, u1⟩, _, ult⟩ := M1.out.box2 0 rfl) | (go_at_call 45; refine (HEX.out _ M1.out.held).mono ?_; rintro e w2 ⟨rfl, h2⟩; have M2 := Lib.hid (M1.out.keep h2); obtain ⟨⟨v0, v1⟩, _, vlt⟩ := M2.out.box2 0 rfl))
    go_ret2
    exact VwTo.no HP.out M2.out.held
  · have hr := hasB_range hhb
    rw [hnn] at hr
    have HSE := Lib.hid (fun k (hk : k < nb) w' (q : Held w w') => rsees_any Ab nb cb An nn cn T n k w' (h.held q) hv hr.1 hr.2 hk)
    have HBL := Lib.hid hbl
    by_cases hm1 : n = -1
    · have hb1 : (n != -1) = false := by simp [hm1]
      clear h hv hhb hbl hr hm1
      go_enter Try.func33, Try.ntmps33
      go_wp2_with (first | (go_at_call 34; refine (HVA.out _ M0.out.held).mono ?_; rintro e w1 ⟨rfl, h1⟩; have M1 := Lib.hid (M0.out.keep h1); obtain ⟨⟨u0, u1⟩, _, ult⟩ := M1.out.box2 0 rfl) | fail)
      have MN := Lib.hid (M1.out.nilRow (e := 9) (s := 1) (f := stC))
      go_loopw [6, 7] (fun v i wr => ∃ (k : Nat) (A : Option Addr) (cap : Nat), i = .int .i64 k ∧ k ≤ nb ∧ v = .slice A k cap ∧ Mem w wr [.box w.heap.size #[.slice Ab nb cb, .slice An nn cn] 27, .row 9 1 stC w.heap.size (.slice A k cap) (viewTo T n k)]) (fun _ i _ => nb - (intOf i).toNat)
      case atStart => exact ⟨0, none, 0, rfl, Nat.zero_le _, rfl, MN.out⟩
      case round =>
        obtain ⟨k, A, cap, rfl, hk, rfl, M⟩ := hrel
        have M3 := Lib.hid M
        clear M MN
        obtain ⟨⟨s0, s1⟩, _, slt⟩ := M3.out.box2 0 rfl
        by_cases hlt : (k : Int) < nb
        · have HSK := Lib.hid (HSE.out k (by omega))
          have HNX := Lib.hid (viewTo_next T n k)
          have HLN := Lib.hid (viewTo_len T n k)
          obtain ⟨s, hs⟩ : ∃ s, sees T n k = s := ⟨_, rfl⟩
          rw [hs] at HSK HNX
          clear hs HSE
          go_wp2_with (first | (go_at_call 47; refine (HSK.out _ M3.out.held).mono ?_; rintro e w4 ⟨rfl, h4⟩; have M4 := Lib.hid (M3.out.keep h4); clear s0 s1 slt; obtain ⟨⟨s0, s1⟩, _, slt⟩ := M4.out.box2 0 rfl) | (at_builtin; refine Mem.wp_app (M4.out.skip _) 1 rfl rfl _ _ _ rfl _ 16 Try.underlying24 info_st rfl (by decide) stC_len stC_one s ⟨w4.heap.size, 0, none⟩ 1 rfl rfl (cells_new _ (by simp) _ _) k HLN.out (by omega) (by decide) ?_; intro g5 cp5 w5 M5; have M6 := Lib.hid M5; clear M5))
          go_roundw
          case rel => exact ⟨k + 1, _, _, by go_num, by omega, rfl, by rw [HNX.out]; exact M6.out⟩
          case measure => (simp [intOf]) <;> omega
        · obtain rfl : nb = k := by omega
          rw [← HBL.out] at M3
          go_wp2
          go_ret2
          exact VwTo.yes HP.out (by rw [← HBL.out]; exact M3.out.row 1 rfl) M3.out.held
    · have hb1 : (n != -1) = true := by simp [hm1]
      have hxt : ex T.nodes n = true := by unfold hasB at hhb; rw [decide_eq_false hm1] at hhb; exact hhb
      rw [hxt] at HEX
      clear h hv hhb hbl hr hxt hm1
      go_enter Try.func33, Try.ntmps33
      go_wp2_with (first | (go_at_call 34; refine (HVA.out _ M0.out.held).mono ?_; rintro e w1 ⟨rfl, h1⟩; have M1 := Lib.hid (M0.out.keep h1); obtain ⟨⟨u0, u1⟩, _, ult⟩ := M1.out.box2 0 rfl) | (go_at_call 45; refine (HEX.out _ M1.out.held).mono ?_; rintro e w2 ⟨rfl, h2⟩; have M2 := Lib.hid (M1.out.keep h2); obtain ⟨⟨v0, v1⟩, _, vlt⟩ := M2.out.box2 0 rfl) | fail)
      have MN := Lib.hid (M2.out.nilRow (e := 9) (s := 1) (f := stC))
      go_loopw [6, 7] (fun v i wr => ∃ (k : Nat) (A : Option Addr) (cap : Nat), i = .int .i64 k ∧ k ≤ nb ∧ v = .slice A k cap ∧ Mem w wr [.box w.heap.size #[.slice Ab nb cb, .slice An nn cn] 27, .row 9 1 stC w.heap.size (.slice A k cap) (viewTo T n k)]) (fun _ i _ => nb - (intOf i).toNat)
      case atStart => exact ⟨0, none, 0, rfl, Nat.zero_le _, rfl, MN.out⟩
      case round =>
        obtain ⟨k, A, cap, rfl, hk, rfl, M⟩ := hrel
        have M3 := Lib.hid M
        clear M MN
        obtain ⟨⟨s0, s1⟩, _, slt⟩ := M3.out.box2 0 rfl
        by_cases hlt : (k : Int) < nb
        · have HSK := Lib.hid (HSE.out k (by omega))
          have HNX := Lib.hid (viewTo_next T n k)
          have HLN := Lib.hid (viewTo_len T n k)
          obtain ⟨s, hs⟩ : ∃ s, sees T n k = s := ⟨_, rfl⟩
          rw [hs] at HSK HNX
          clear hs HSE
          go_wp2_with (first | (go_at_call 47; refine (HSK.out _ M3.out.held).mono ?_; rintro e w4 ⟨rfl, h4⟩; have M4 := Lib.hid (M3.out.keep h4); clear s0 s1 slt; obtain ⟨⟨s0, s1⟩, _, slt⟩ := M4.out.box2 0 rfl) | (at_builtin; refine Mem.wp_app (M4.out.skip _) 1 rfl rfl _ _ _ rfl _ 16 Try.underlying24 info_st rfl (by decide) stC_len stC_one s ⟨w4.heap.size, 0, none⟩ 1 rfl rfl (cells_new _ (by simp) _ _) k HLN.out (by omega) (by decide) ?_; intro g5 cp5 w5 M5; have M6 := Lib.hid M5; clear M5))
          go_roundw
          case rel => exact ⟨k + 1, _, _, by go_num, by omega, rfl, by rw [HNX.out]; exact M6.out⟩
          case measure => (simp [intOf]) <;> omega
        · obtain rfl : nb = k := by omega
          rw [← HBL.out] at M3
          go_wp2
          go_ret2
          exact VwTo.yes HP.out (by rw [← HBL.out]; exact M3.out.row 1 rfl) M3.out.held
set_option maxHeartbeats 2000000 in
theorem rnew_any (A : Option Addr) (n cap : Nat) (L : List ByteArray) (w : World) (h : Sl 1 stC w A n L) (hv : Ok ⟨L, []⟩) :
    Calls Try.prog 27 #[.slice A n cap] w (RetB n 0 ⟨L, []⟩ w) := by
  have hb2 := hv.base2
  have hl := h.1
  simp only at hb2
  have HS := Lib.hid h
  have M0 := Lib.hid (((Mem.start w).alloc #[.slice none 0 0, .slice none 0 0] 27).emptyRow (e := 9) (s := 1) (f := stC) (b := w.heap.size + 1) (by simp))
  have HV := Lib.hid hv
  have hn64 : n ≤ 64 := by omega
  clear h hv
  go_enter Try.func27, Try.ntmps27
  go_wp2_with (first | (at_builtin; refine Mem.wp_cat M0.out 1 rfl rfl _ _ _ rfl _ 16 Try.underlying24 info_st rfl (by decide) stC_len stC_one L A n cap rfl rfl (HS.out.held M0.out.held) rfl (by omega) (by decide) ?_; intro A1 cp1 w1 M1 _; have M2 := Lib.hid M1; clear M1) | fail)
  rw [Nat.zero_add] at M2
  have M3 := Lib.hid ((M2.out.nilRow (e := 36) (s := 4) (f := nrC)).allocF rfl #[.slice A1 n cp1, .slice none 0 0] 27)
  have HT := Lib.hid (TrM.tr (T := ⟨L, []⟩) (R := []) (W := w) ⟨M3.out.rest.rest, ⟨rfl, fun i r x hr => by cases hr⟩⟩)
  go_wp2_with (go_at_call 34; refine (rvalid_any A1 n cp1 none 0 0 ⟨L, []⟩ _ HT.out HV.out).mono ?_; rintro e w3 ⟨rfl, h3⟩; have M4 := Lib.hid (M3.out.keep h3); obtain ⟨⟨u0, u1⟩, _, ult⟩ := M4.out.box2 0 rfl; obtain ⟨⟨r0, r1⟩, ⟨rf0, rf1⟩, rlt⟩ := M4.out.box2 1 rfl)
  have M5 := Lib.hid ((M4.out.put 1 rfl 0 (.slice A1 n cp1)).put 1 rfl 1 (.slice none 0 0))
  refine bodyPost_ret (Bx.res_ct Try.results27 rfl (TB.load (M5.out.blk 1 rfl) rfl rfl)) rfl ⟨A1, cp1, none, 0, [], rfl, ?_, rfl, fun i r x hr => by cases hr⟩
  exact M5.out.rest.rest
end Sn
end Go.Proofs.Ytncgihbnfmpdbaa
