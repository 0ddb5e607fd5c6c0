/-
  The law SnapLean, walked (chapter 41).
-/
import Derived.Test.YtncgihbnfmpdbaaSnAe
import Derived.Test.YtncgihbnfmpdbaaRw
set_option linter.unusedVariables false
set_option linter.unusedSimpArgs false
set_option maxRecDepth 100000
namespace Go.Proofs.Ytncgihbnfmpdbaa
open Go.RowKit Go.BigFrame
namespace Sn
theorem nums_in {o : Option Addr} {len cap : Nat} {z : List Int} {W : World} (h : Rw.IsRow .i64 W o len cap z) : ∃ L, Sl 1 inC W o len L ∧ (len : Int) ≤ 9223372036854775807 := by
  obtain ⟨L, hL, hmax, hwf, hcell⟩ := h.view
  refine ⟨L, ⟨hL, hcell.imp id ?_⟩, by unfold maxLen at hmax; omega⟩
  rintro ⟨b, off, e, hb, hc⟩
  refine ⟨b, off, e, hb, fun k hk j v hv => ?_⟩
  rcases j with _ | j
  · simp only [inC, List.getElem?_cons_zero, Option.some.injEq] at hv
    subst hv
    have := hc k hk
    simpa using this
  · simp [inC] at hv
theorem in_at {w a : World} {A : Option Addr} {n : Nat} {L : List Int} (h : Sl 1 inC w A n L) (ha : Held w a) {k : Nat} (hk : k < n) :
    ∃ b off x, A = some ⟨b, off, none⟩ ∧ b < w.heap.size ∧ L[k]? = some x ∧ a.cell? ⟨b, off + k, none⟩ = some (.int .i64 x) := by
  obtain ⟨b, off, x, e, hb, hx, hc⟩ := Sl.at_ h ha hk
  have := hc 0 _ rfl
  rw [Nat.add_zero, Nat.mul_one] at this
  exact ⟨b, off, x, e, hb, hx, this⟩
/-- A valid lean tree in the law's box. -/
def LeanIn (W : World) (tb : Nat) (w : World) : Prop := ∃ T, Ok T ∧ LeanT T ∧ InBox W tb T w
theorem hasB_par {T : Tr} (h : Ok T) {i : Nat} {x : Nd} (hx : T.nodes[i]? = some x) (hl : ¬ x.nm.size = 0) : hasB T x.par = true := by
  have hp := (h.node i x hx).par hl
  unfold hasB
  rw [Bool.or_eq_true, decide_eq_true_eq]
  by_cases h0 : 0 ≤ x.par
  · exact .inr (hp.2.2 h0)
  · exact .inl (by omega)
theorem lean_read {T : Tr} (h : Ok T) (hL : LeanT T) {i k : Nat} {x : Nd} {d : Dl} (hx : T.nodes[i]? = some x) (hd : x.ds[k]? = some d) : ∃ s, readR T x.par d.b = (s, true) ∧ (s.toList == d.s.toList) = false := by
  have hm := List.mem_of_getElem? hd
  have hn := h.node i x hx
  have hl : ¬ x.nm.size = 0 := fun q => by rw [(hn.dead q).2.2] at hm; cases hm
  have hb := hn.ds.all d hm
  refine ⟨sees T x.par d.b, readR_yes ⟨hasB_par h hx hl, hb.1, hb.2.1⟩, ?_⟩
  rw [nm_eq, decide_eq_false_iff_not]
  exact fun e => hL i x hx d hm e.symm
set_option maxHeartbeats 8000000 in
theorem lean_any (A : Option Addr) (n cap : Nat) (L : List Int) (w : World) (h : Sl 1 inC w A n L) (hn : (n : Int) ≤ 9223372036854775807) :
    Calls Try.prog 3 #[.slice A n cap] w fun e w' => e = .returned (.bool true) ∧ Held w w' := by
  have HAW := Lib.hid (fun w' => awake_any w')
  have HL := Lib.hid h
  by_cases g1 : (50 : Int) < n
  · go_enter Try.func3, Try.ntmps3
    go_wp2_with (go_at_call 6; refine (HAW.out _).mono ?_; rintro e w1 ⟨rfl, h1⟩)
    go_ret
    exact ⟨rfl, h1⟩
  have hbl := blocksTo_len 1 4
  have HBL := Lib.hid (fun w' => blocks_ex 1 w' (by decide))
  have HO := Lib.hid blocks_ok
  obtain ⟨B, hB⟩ : ∃ q, blocksTo 1 4 = q := ⟨_, rfl⟩
  rw [hB] at HBL hbl HO
  clear hB h
  go_enter Try.func3, Try.ntmps3
  go_wp2_with fail
  refine (HBL.out _).mono ?_
  rintro e w1 ⟨A0, cap0, rfl, hc0, ho0, h1⟩
  rw [hbl] at ho0 hc0 ⊢
  have M1 := Lib.hid ((Mem.start w).own h1 ho0)
  clear h1 ho0
  go_wp2_with fail
  refine (new_any A0 4 cap0 B _ (Own.reads stC_len (M1.out.row 0 rfl)).1 (fun e => own_nil (e ▸ (M1.out.row 0 rfl))) HO.out).mono ?_
  rintro e w2 ⟨Ab, cb, An, cn, R, rfl, hT⟩
  obtain ⟨tb, htb⟩ : ∃ q, w2.heap.size = q := ⟨_, rfl⟩
  have M2 := (TrM.join (Mem.of M1.out.held) hT).allocF htb #[.slice Ab 4 cb, .slice An 0 cn] 27
  have IB : Hid (LeanIn w tb (w2.alloc (.cells #[.slice Ab 4 cb, .slice An 0 cn] 27))) := ⟨⟨B, []⟩, HO.out, fun i x hx => by simp at hx, InBox.mk hT.eq M2⟩
  clear hT M1 M2
  go_wp2_with fail
  clear htb
  go_loopw [5] (fun i wr => ∃ k : Nat, i = .int .i64 k ∧ k ≤ n ∧ LeanIn w tb wr) (fun i _ => n - (intOf i).toNat)
  case atStart => exact ⟨0, rfl, Nat.zero_le _, IB.out⟩
  case round =>
    obtain ⟨k, rfl, hk, T, hok, hlean, Ab, nb, cb, An, nn, cn, R, he, hM⟩ := hrel
    have HE := Lib.hid he
    have M := Lib.hid hM
    have HOK := Lib.hid hok
    have HLE := Lib.hid hlean
    clear he hM hok hlean IB
    obtain ⟨⟨p0, p1⟩, ⟨pf0, pf1⟩, plt⟩ := M.out.box2 0 rfl
    by_cases hlt : (k : Int) < n
    · obtain ⟨b, off, x, rfl, lb, hx, x0⟩ := in_at HL.out M.out.held (k := k) (by omega)
      have hlb := lt_of_cell x0
      simp only at hlb
      have s1 : (0 : Int) ≤ k := by omega
      have HA := Lib.hid (fun w' (q : Held wr w') => act_any Ab nb cb An nn cn T x w' (st_tree (M.out.keep q) HE.out) HOK.out)
      have HOK2 := Lib.hid (act_ok HOK.out (Mk.mix x 71))
      have HLE2 := Lib.hid (act_lean HOK.out HLE.out (Mk.mix x 71))
      obtain ⟨O, hO⟩ : ∃ q, actR T (Mk.mix x 71) = q := ⟨_, rfl⟩
      rw [hO] at HA HOK2 HLE2
      clear hO hx
      go_wp2_with fail
      go_region_with (go_at_call 9; refine (HA.out _ (Held.refl _).drew).mono ?_; rintro e w6 ⟨Ab2, nb2, cb2, An2, nn2, cn2, R2, rfl, hT⟩; have HT := Lib.hid hT; have M6 := Lib.hid (next_tree M.out.drew (Held.refl _) hT); clear hT p0 p1 pf0 pf1 plt; obtain ⟨⟨p0, p1⟩, ⟨pf0, pf1⟩, plt⟩ := M6.out.box2 0 rfl)
      all_goals
        go_wp2
        go_roundw
        case rel => exact ⟨k + 1, by go_num, by omega, O.T, HOK2.out, HLE2.out, InBox.put M.out.drew (Held.refl _) HT.out⟩
        case measure => (simp [intOf]) <;> omega
    · clear HL
      obtain ⟨wA, hwA⟩ : ∃ q, q = wr := ⟨_, rfl⟩
      rw [← hwA] at M p0 p1 pf0 pf1 plt ⊢
      clear hwA wr
      have HT := Lib.hid (st_tree M.out HE.out)
      have hnn := HT.out.nn
      have HNN := Lib.hid hnn
      have hn12 := HOK.out.nods
      rw [hnn] at hn12
      have HRD := Lib.hid (fun p b w' (q : Held wA w') => read_any Ab nb cb An nn cn T p b w' (HT.out.held q) HOK.out)
      clear hnn
      go_wp2_with fail
      go_loopw [6] (fun i wr => ∃ k : Nat, i = .int .i64 k ∧ k ≤ nn ∧ Held wA wr) (fun i _ => nn - (intOf i).toNat)
      case atStart => exact ⟨0, rfl, Nat.zero_le _, Held.refl _⟩
      case round =>
        obtain ⟨i, rfl, hi, hw⟩ := hrel
        have HW := Lib.hid hw
        replace p0 := hw.cell p0
        replace p1 := hw.cell p1
        have plt2 := Nat.lt_of_lt_of_le plt hw.le
        clear hw
        by_cases hli : (i : Int) < nn
        · obtain ⟨b, off, x, A, dn, dcap, rfl, lb, hx, x0, x1, x2, x3, hds, hnil⟩ := HT.out.at_ HW.out (k := i) (by omega)
          have HX := Lib.hid hx
          have HDS := Lib.hid hds
          have hdl := ok_dl HOK.out i x hx
          rw [hds.1] at hdl
          have hlb := lt_of_cell x0
          simp only at hlb
          obtain ⟨wB, hwB⟩ : ∃ q, q = wr := ⟨_, rfl⟩
          rw [← hwB] at HW p0 p1 plt2 x0 x1 x2 x3 hlb ⊢
          clear hwB wr hx hds
          go_wp2_with fail
          go_loopw [7] (fun j wr => ∃ k : Nat, j = .int .i64 k ∧ k ≤ dn ∧ Held wB wr) (fun j _ => dn - (intOf j).toNat)
          case atStart => exact ⟨0, rfl, Nat.zero_le _, Held.refl _⟩
          case round =>
            obtain ⟨m, rfl, hm, hw⟩ := hrel
            have HW2 := Lib.hid hw
            replace p0 := hw.cell p0
            replace p1 := hw.cell p1
            replace x1 := hw.cell x1
            replace x3 := hw.cell x3
            have plt3 := Nat.lt_of_lt_of_le plt2 hw.le
            have hlb3 := Nat.lt_of_lt_of_le hlb hw.le
            clear hw x0 x2
            by_cases hlm : (m : Int) < dn
            · obtain ⟨b2, o2, d, rfl, lb2, hd, y0, y1⟩ := dl_at HDS.out (HW.out.step HW2.out) (k := m) (by omega)
              obtain ⟨s, hs1, hs2⟩ := lean_read HOK.out HLE.out HX.out hd
              have HRS := Lib.hid (HRD.out x.par d.b)
              rw [hs1] at HRS
              have hlb2 := lt_of_cell y0
              simp only at hlb2
              clear hs1 hd
              go_wp2_with fail
              obtain ⟨wC, hwC⟩ : ∃ q, q = wr.alloc (.cells #[.int .i64 d.b, .string d.s] 38) := ⟨_, rfl⟩
              have MC := Lib.hid (((Mem.start wr).alloc #[.int .i64 d.b, .string d.s] 38))
              rw [← hwC] at MC ⊢
              have kC : Held wr wC := MC.out.held
              have z0 := kC.cell p0
              have z1 := kC.cell p1
              have z2 := kC.cell x1
              obtain ⟨⟨e0, e1⟩, _, elt⟩ := MC.out.box2 0 rfl
              have HKC := Lib.hid ((HW.out.step HW2.out).step kC)
              have HKC2 := Lib.hid (HW2.out.step kC)
              have hi12 : (i : Int) < nn := hli
              clear kC hwC p0 p1 x1 x3 y0 y1
              go_region_held3 (fun w' => w'.cell? ⟨tb, 0, none⟩ = some (.slice Ab nb cb) ∧ w'.cell? ⟨tb, 1, none⟩ = some (.slice (some ⟨b, off, none⟩) nn cn) ∧ w'.cell? ⟨b, off + i * 4 + 1, none⟩ = some (.int .i64 x.par) ∧ w'.cell? ⟨wr.heap.size, 0, none⟩ = some (.int .i64 d.b) ∧ w'.cell? ⟨wr.heap.size, 1, none⟩ = some (.string d.s) ∧ Held wC w')
                ((repeat' refine And.intro ?_ ?_) <;> first | exact z0 | exact z1 | exact z2 | exact e0 | exact e1 | exact (Held.refl _).drew | exact Held.cell (by assumption) z0 | exact Held.cell (by assumption) z1 | exact Held.cell (by assumption) z2 | exact Held.cell (by assumption) e0 | exact Held.cell (by assumption) e1 | exact (by assumption))
                (first | (go_at_call 10; refine (HRS.out _ (HKC.out.step (Held.refl _).drew)).mono ?_; rintro e w8 ⟨rfl, h8⟩; have k8 : Held wC w8 := (Held.refl _).drew.step h8) | fail)
              have e0' := k8.cell e0
              have e1' := k8.cell e1
              go_wp2
              go_roundw
              case rel => exact ⟨m + 1, by go_num, by omega, HKC2.out.step k8⟩
              case measure => (simp [intOf]) <;> omega
            · go_wp2
              go_roundw
              case rel => exact ⟨i + 1, by go_num, by omega, HW.out.step HW2.out⟩
              case measure => (simp [intOf]) <;> omega
        · go_wp2_with (go_at_call 6; refine (HAW.out _).mono ?_; rintro e w9 ⟨rfl, h9⟩)
          go_ret
          exact ⟨rfl, (M.out.held.step HW.out).step h9⟩
theorem lean_law (o1 : Option Addr) (len1 cap1 : Nat) (z1 : List Int) (W : World) (h1 : Rw.IsRow .i64 W o1 len1 cap1 z1) :
    Calls Try.prog 3 #[.slice o1 len1 cap1] W fun e w' => e = .returned (.bool true) ∧ Below W.heap.size W w' := by
  obtain ⟨U, u1, u2⟩ := nums_in h1
  exact lean_any o1 len1 cap1 U W u1 u2
end Sn
end Go.Proofs.Ytncgihbnfmpdbaa
