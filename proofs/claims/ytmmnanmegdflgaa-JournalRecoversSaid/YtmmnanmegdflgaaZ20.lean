/-
  Contracts: Checkpoint of the program (chapter 42).
  Contracts: EncodeManage of the reference (chapter 42).
  Contracts: DecodeManage of the reference (chapter 42).
-/
import Derived.Test.YtmmnanmegdflgaaZ19
import Derived.Test.YtmmnanmegdflgaaZ4
import Derived.Test.YtmmnanmegdflgaaZ6
import Derived.Lib.QuietBelow
import Derived.BigQuiet
import Derived.Deep.DeepCutAuto
set_option linter.unusedVariables false
set_option linter.unusedSimpArgs false
set_option maxRecDepth 100000
namespace Go.Proofs.Ytmmnanmegdflgaa
open Go.RowKit Go.BigFrame Go.Sort Go.Lib
namespace Jn
open Ad Adm Law39 Lg Lgc Strs
def ChkTo (r : Reg) (w : World) (e : Ending) (w' : World) : Prop := e = .returned (.tuple #[.string ⟨(chk r).toArray⟩, .bool (chkOk r)]) ∧ Held w w'
theorem ChkTo.no {r : Reg} {w w' : World} (h : chkOk r = false) (k : Held w w') : ChkTo r w (.returned (.tuple #[.string ⟨#[]⟩, .bool false])) w' := by
  refine ⟨?_, k⟩
  rw [chk_no h, h]
theorem ChkTo.yes {r : Reg} {w w' : World} {s : ByteArray} (h : chkOk r = true) (hs : s.data.toList = chkL r) (k : Held w w') : ChkTo r w (.returned (.tuple #[.string s, .bool true])) w' := by
  refine ⟨?_, k⟩
  rw [chk_yes h, h, ← str_mk hs]
/-- So far have the guests been read. -/
structure Ck2 (r : Reg) (n j : Nat) (L : List Man) : Prop where
  u : L = upOps 0 r.hs ++ (r.gs.take j).map gOp
  un : L.length = n + j
theorem Ck2.step {r : Reg} {n j : Nat} {L : List Man} {p : Pl} (h : Ck2 r n j L) (hp : r.gs[j]? = some p) : Ck2 r n (j + 1) (L ++ [gOp p]) :=
  ⟨by rw [gOps_at hp, h.u, List.append_assoc], by rw [List.length_append, h.un]; simp only [List.length_singleton]; omega⟩
/-- So far has been written. -/
structure Ck3 (O : List Man) (j : Nat) (s : ByteArray) : Prop where
  s : s.data.toList = recs 0 (O.take j)
theorem Ck3.step {O : List Man} {j : Nat} {s : ByteArray} {o : Man} (h : Ck3 O j s) (ho : O[j]? = some o) : Ck3 O (j + 1) (s ++ ⟨(record j o).toArray⟩) :=
  ⟨by rw [recs_take ho, ← h.s]; simp⟩
theorem Ck3.len {O : List Man} {j : Nat} {s : ByteArray} (h : Ck3 O j s) (hO : ∀ o ∈ O, Sml o) (hl : O.length ≤ 20) : (s.size : Int) ≤ 6000 := by
  have h1 := recs_mono O j
  have h2 := sml_recs O 0 (by omega) hO
  have h3 := nm_len s
  rw [h.s] at h3
  omega
/-- So far have the hosts been read. -/
structure Ck1 (H : List Cap) (k n5 : Nat) (U D : List Man) : Prop where
  u : U = upOps 0 (H.take k)
  d : D = dnOps 0 (H.take k)
  un : U.length = k
  dn : D.length = n5
  le : n5 ≤ k
theorem Ck1.start (H : List Cap) : Ck1 H 0 0 [] [] := ⟨rfl, rfl, rfl, rfl, Nat.le_refl _⟩
theorem Ck1.up {H : List Cap} {k n5 : Nat} {U D : List Man} {m c : Int} (h : Ck1 H k n5 U D) (hc : H[k]? = some ⟨m, c, true⟩) : Ck1 H (k + 1) n5 (U ++ [hOp k ⟨m, c, true⟩]) D :=
  ⟨by rw [upOps_at hc, h.u]; rfl, by rw [dn_up hc rfl]; exact h.d, by rw [List.length_append, h.un]; rfl, h.dn, by have := h.le; omega⟩
theorem Ck1.down {H : List Cap} {k n5 : Nat} {U D : List Man} {m c : Int} (h : Ck1 H k n5 U D) (hc : H[k]? = some ⟨m, c, false⟩) : Ck1 H (k + 1) (n5 + 1) (U ++ [hOp k ⟨m, c, true⟩]) (D ++ [hOp k ⟨m, c, false⟩]) :=
  ⟨by rw [upOps_at hc, h.u]; rfl, by rw [dn_dn hc rfl, h.d], by rw [List.length_append, h.un]; rfl, by rw [List.length_append, h.dn]; rfl, by have := h.le; omega⟩
set_option maxHeartbeats 4000000 in
theorem checkpoint_any (HA : Option Addr) (hn hc : Nat) (GA : Option Addr) (gn gc : Nat) (r : Reg) (w : World) (h : RegR w HA hn GA gn r) (hhn : (hn : Int) ≤ 1000000) (hgn : (gn : Int) ≤ 1000000) (hnm : ∀ p ∈ r.gs, (p.nm.size : Int) ≤ 1000000000) (hg : Grp r) :
    Calls Try.prog 26 #[.agg #[.slice HA hn hc, .slice GA gn gc]] w (ChkTo r w) := by
  have M0 := Lib.hid ((Mem.start w).alloc' (b := w.heap.size) rfl #[.slice HA hn hc, .slice GA gn gc] 37)
  have HR := Lib.hid h
  have hval := valid_any HA hn hc GA gn gc r.hs r.gs _ (h.held M0.out.held).hs (h.held M0.out.held).gs hhn hgn hnm
  obtain ⟨v, hv⟩ : ∃ v, validR ⟨r.hs, r.gs⟩ = v := ⟨_, rfl⟩
  have HVR : Is (validR r) v := ⟨hv⟩
  rw [hv] at hval
  have HVAL := Lib.hid hval
  clear hval hv hnm
  obtain ⟨⟨a0, a1⟩, ⟨af0, af1⟩, alt⟩ := M0.out.box2 0 rfl
  cases v
  · go_enter Try.func26, Try.ntmps26
    go_wp2_with fail
    refine HVAL.out.mono ?_
    rintro e w1 ⟨rfl, h1⟩
    go_wp2
    go_ret2
    exact ChkTo.no (chk_bad HVR.out) (M0.out.keep h1).held
  have HV := Lib.hid (vr_of HVR.out)
  have hl6 : (hn : Int) ≤ 6 := by have := HV.out.hl; have := h.hs.1; omega
  have gl8 : (gn : Int) ≤ 8 := by have := HV.out.gl; have := h.gs.1; omega
  have HG := Lib.hid hg
  have HHL : Is r.hs.length hn := ⟨h.hs.1⟩
  have HGL : Is r.gs.length gn := ⟨h.gs.1⟩
  clear h hg
  go_enter Try.func26, Try.ntmps26
  go_wp2_with fail
  refine HVAL.out.mono ?_
  rintro e w1 ⟨rfl, h1⟩
  have M1 := Lib.hid (((M0.out.keep h1).nilRow (e := 27) (s := 11) (f := manF)).nilRow (e := 27) (s := 11) (f := manF))
  clear M0 h1 HVAL a0 a1 af0 af1 alt
  obtain ⟨⟨a0, a1⟩, ⟨af0, af1⟩, alt⟩ := M1.out.box2 0 rfl
  go_wp2
  go_loopw [4, 5, 21] (fun v4 v5 i wr => ∃ (k n5 : Nat) (U D : List Man), i = .int .i64 k ∧ k ≤ hn ∧ Ck1 r.hs k n5 U D ∧ Mem w wr [.box w.heap.size #[.slice HA hn hc, .slice GA gn gc] 37, .row 27 11 manF w.heap.size (v4) (U), .row 27 11 manF w.heap.size (v5) (D)]) (fun _ _ i _ => hn - (intOf i).toNat)
  case atStart => exact ⟨0, 0, [], [], rfl, Nat.zero_le _, Ck1.start _, M1.out⟩
  case round =>
    obtain ⟨k, n5, U, D, rfl, hk, hC, hM⟩ := hrel
    obtain ⟨wA, rfl⟩ : ∃ wA : World, wA = wr := ⟨_, rfl⟩
    obtain ⟨A4, cp4, rfl, hcp4, _⟩ := (hM.row 1 rfl).shape
    obtain ⟨A5, cp5, rfl, hcp5, _⟩ := (hM.row 2 rfl).shape
    rw [hC.un] at hcp4 hM ⊢
    rw [hC.dn] at hcp5 hM ⊢
    have hn5 : (n5 : Int) ≤ 6 := by have := hC.le; omega
    have M2 := Lib.hid hM
    have HC := Lib.hid hC
    clear hM hC M1 a0 a1 af0 af1 alt
    obtain ⟨⟨a0, a1⟩, ⟨af0, af1⟩, alt⟩ := M2.out.box2 0 rfl
    by_cases hlt : (k : Int) < hn
    · obtain ⟨b, off, m, c, up, rfl, lb, hx, x0, x1, x2⟩ := capAt HR.out.hs M2.out.held (k := k) (by omega)
      have HX := Lib.hid hx
      have k0 : ¬ (k : Int) < 0 := by omega
      have M3 := Lib.hid (M2.out.alloc' (b := wA.heap.size) rfl #[.int .i64 m, .int .i64 c, .bool up] 25)
      clear hx a0 a1 af0 af1 alt
      cases up
      · have HC2 := Lib.hid (HC.out.down HX.out)
        clear HX
        go_wp2_with (first | (at_builtin; refine Mem.wp_app (M5.out.skip _) 1 rfl rfl _ _ _ rfl _ 96 Try.underlying54 info_man rfl (by decide) manF_len manF_one (hOp k ⟨m, c, true⟩) ⟨w4.heap.size, 0, none⟩ 1 rfl rfl (cells_new _ (by simp) _ _) k HC.out.un (by omega) (by decide) ?_; intro gg cpp w6 M6h; have M6 := Lib.hid M6h; clear M6h) | (at_builtin; refine Mem.wp_app (M3.out.skip _) 2 rfl rfl _ _ _ rfl _ 96 Try.underlying54 info_man rfl (by decide) manF_len manF_one (hOp k ⟨m, c, false⟩) ⟨wA.heap.size + 1, 0, none⟩ 1 rfl rfl (cells_new _ (by simp) _ _) n5 HC.out.dn (by omega) (by decide) ?_; intro gg cpp w4 M4h; have M4 := Lib.hid M4h; clear M4h; obtain ⟨⟨d0, d1, d2⟩, ⟨df0, df1, df2⟩, dlt⟩ := M4.out.box3 3 rfl; have M5 := Lib.hid (M4.out.put 3 rfl 2 (.bool true))))
        clear d0 d1 d2 df0 df1 df2 dlt
        go_roundw
        case rel => exact ⟨k + 1, n5 + 1, _, _, by go_num, by omega, HC2.out, M6.out.take 3⟩
        case measure => (simp [intOf]) <;> omega
      · have HC2 := Lib.hid (HC.out.up HX.out)
        clear HX
        go_wp2_with (at_builtin; refine Mem.wp_app (M3.out.skip _) 1 rfl rfl _ _ _ rfl _ 96 Try.underlying54 info_man rfl (by decide) manF_len manF_one (hOp k ⟨m, c, true⟩) ⟨wA.heap.size + 1, 0, none⟩ 1 rfl rfl (cells_new _ (by simp) _ _) k HC.out.un (by omega) (by decide) ?_; intro gg cpp w4 M4h; have M4 := Lib.hid M4h; clear M4h)
        go_roundw
        case rel => exact ⟨k + 1, n5, _, _, by go_num, by omega, HC2.out, M4.out.take 3⟩
        case measure => (simp [intOf]) <;> omega
    · obtain rfl : hn = k := by omega
      have HU : Is U (upOps 0 r.hs) := ⟨by have := HC.out.u; rwa [List.take_of_length_le (by rw [HHL.out]; omega)] at this⟩
      have HD : Is D (dnOps 0 r.hs) := ⟨by have := HC.out.d; rwa [List.take_of_length_le (by rw [HHL.out]; omega)] at this⟩
      have HC0 : Hid (Ck2 r hn 0 U) := Lib.hid ⟨by rw [HU.out]; simp, HC.out.un⟩
      have HDN : Is D.length n5 := ⟨HC.out.dn⟩
      go_wp2
      clear a0 a1 af0 af1 alt
      go_loopw [4, 46] (fun v4 i wr => ∃ (j : Nat) (L : List Man), i = .int .i64 j ∧ j ≤ gn ∧ Ck2 r hn j L ∧ Mem w wr [.box w.heap.size #[.slice HA hn hc, .slice GA gn gc] 37, .row 27 11 manF w.heap.size (v4) (L), .row 27 11 manF w.heap.size (.slice A5 n5 cp5) (D)]) (fun _ i _ => gn - (intOf i).toNat)
      case atStart => exact ⟨0, U, rfl, Nat.zero_le _, HC0.out, M2.out⟩
      case round =>
        obtain ⟨j, L, rfl, hj, hC, hM⟩ := hrel
        obtain ⟨wB, rfl⟩ : ∃ wB : World, wB = wr := ⟨_, rfl⟩
        obtain ⟨A4, cp4, rfl, hcp4, _⟩ := (hM.row 1 rfl).shape
        rw [hC.un] at hcp4 hM ⊢
        have M2 := Lib.hid hM
        have HC2 := Lib.hid hC
        clear hM hC HC HC0
        obtain ⟨⟨a0, a1⟩, ⟨af0, af1⟩, alt⟩ := M2.out.box2 0 rfl
        by_cases hlt2 : (j : Int) < gn
        · obtain ⟨b, off, nm, dr, dl, dc, dg, pa, pb, rfl, lb, hx, x0, x1, x2, x3, x4, x5, x6⟩ := plAt HR.out.gs M2.out.held (k := j) (by omega)
          have HC3 := Lib.hid (HC2.out.step hx)
          have k0 : ¬ (j : Int) < 0 := by omega
          have M3 := Lib.hid (M2.out.alloc' (b := wB.heap.size) rfl #[.string nm, .int .i64 dr, .int .i64 dl, .int .i64 dc, .int .i64 dg, .int .i64 pa, .int .i64 pb] 75)
          clear hx a0 a1 af0 af1 alt
          go_wp2_with (at_builtin; refine Mem.wp_app (M3.out.skip _) 1 rfl rfl _ _ _ rfl _ 96 Try.underlying54 info_man rfl (by decide) manF_len manF_one (gOp ⟨nm, ⟨dr, dl, dc, dg⟩, pa, pb⟩) ⟨wB.heap.size + 1, 0, none⟩ 1 rfl rfl (cells_new _ (by simp) _ _) (hn + j) HC2.out.un (by omega) (by decide) ?_; intro gg cpp w4 M4h; have M4 := Lib.hid M4h; clear M4h)
          go_roundw
          case rel => exact ⟨j + 1, _, by go_num, by omega, HC3.out, M4.out.take 3⟩
          case measure => (simp [intOf]) <;> omega
        · obtain rfl : gn = j := by omega
          have HO : Is (L ++ D) (chkOps r) := ⟨by
            have := HC2.out.u
            rw [List.take_of_length_le (by rw [HGL.out]; omega)] at this
            rw [this, HD.out]; rfl⟩
          have HN2 : Is L.length (hn + gn) := ⟨HC2.out.un⟩
          obtain ⟨O, hO⟩ : ∃ O, chkOps r = O := ⟨_, rfl⟩
          have HOO := Lib.hid hO
          have hON : (chkOps r).length = hn + gn + n5 := by rw [← HO.out, List.length_append, HN2.out, HDN.out]
          have HSM := Lib.hid (chk_sml HV.out HG.out)
          have hO20 := chkOps_len HV.out
          obtain ⟨N, hN⟩ : ∃ N, hn + gn + n5 = N := ⟨_, rfl⟩
          rw [hO] at hON HSM hO20 HO
          rw [hN] at hON
          rw [hON] at hO20
          have HON : Is O.length N := ⟨hON⟩
          have HKN : Is (hn + gn + n5) N := ⟨hN⟩
          clear hO hON hN
          have M3 := Lib.hid M2.out
          clear M2 HC2
          go_wp2_with (at_builtin; refine Mem.wp_cat M3.out 1 rfl rfl _ _ _ rfl _ 96 Try.underlying54 info_man rfl (by decide) manF_len manF_one D A5 n5 cp5 rfl rfl (Own.reads manF_len (M3.out.row 2 rfl)).1 HN2.out (by omega) (by decide) ?_; intro A8 cp8 w8 M8h hA8; have M8 := Lib.hid (M8h.take 2); clear M8h hA8)
          rw [HO.out, HKN.out] at M8
          have e68 : (hn : Int) + gn + n5 = (N : Int) := by have := HKN.out; omega
          rw [HKN.out, e68]
          clear e68 M3
          go_loopw [10, 69] (fun v10 i wr => ∃ (m : Nat) (s : ByteArray), v10 = .string s ∧ i = .int .i64 m ∧ m ≤ N ∧ Ck3 O m s ∧ Mem w wr [.box w.heap.size #[.slice HA hn hc, .slice GA gn gc] 37, .row 27 11 manF w.heap.size (.slice A8 N cp8) (O)]) (fun _ i _ => N - (intOf i).toNat)
          case atStart => exact ⟨0, ⟨#[]⟩, rfl, rfl, Nat.zero_le _, ⟨rfl⟩, M8.out⟩
          case round =>
            obtain ⟨m, s, rfl, rfl, hm, hC, hM⟩ := hrel
            have M9 := Lib.hid hM
            have hs6 := hC.len HSM.out (by rw [HON.out]; exact hO20)
            have HC := Lib.hid hC
            clear hM hC M8 a0 a1 af0 af1 alt
            by_cases hlt3 : (m : Int) < N
            · obtain ⟨g, x, rfl, hg0, hg1, hx, hc⟩ := M9.out.slot 1 rfl manF_len (by decide) (k := m) (by rw [HON.out]; omega)
              obtain ⟨xk, xnm, xa, xb, ⟨xr, xl, xc, xg⟩, ⟨xm, xcc, xup⟩⟩ := x
              have hsm := HSM.out _ (List.mem_of_getElem? hx)
              have hxn : (xnm.size : Int) ≤ 1000000000 := by have := hsm.nm; simp only at this; omega
              have hrl := sml_rec (n := m) hsm (by omega)
              have HC3 := Lib.hid (HC.out.step hx)
              have x0 : wr.cell? ⟨g, m * 11 + 0, none⟩ = some (.int .i64 xk) := (hc 0 (by decide)).2 _ rfl
              have x1 : wr.cell? ⟨g, m * 11 + 1, none⟩ = some (.string xnm) := (hc 1 (by decide)).2 _ rfl
              have x2 : wr.cell? ⟨g, m * 11 + 2, none⟩ = some (.int .i64 xa) := (hc 2 (by decide)).2 _ rfl
              have x3 : wr.cell? ⟨g, m * 11 + 3, none⟩ = some (.int .i64 xb) := (hc 3 (by decide)).2 _ rfl
              have x4 : wr.cell? ⟨g, m * 11 + 4, none⟩ = some (.int .i64 xr) := (hc 4 (by decide)).2 _ rfl
              have x5 : wr.cell? ⟨g, m * 11 + 5, none⟩ = some (.int .i64 xl) := (hc 5 (by decide)).2 _ rfl
              have x6 : wr.cell? ⟨g, m * 11 + 6, none⟩ = some (.int .i64 xc) := (hc 6 (by decide)).2 _ rfl
              have x7 : wr.cell? ⟨g, m * 11 + 7, none⟩ = some (.int .i64 xg) := (hc 7 (by decide)).2 _ rfl
              have x8 : wr.cell? ⟨g, m * 11 + 8, none⟩ = some (.int .i64 xm) := (hc 8 (by decide)).2 _ rfl
              have x9 : wr.cell? ⟨g, m * 11 + 9, none⟩ = some (.int .i64 xcc) := (hc 9 (by decide)).2 _ rfl
              have x10 : wr.cell? ⟨g, m * 11 + 10, none⟩ = some (.bool xup) := (hc 10 (by decide)).2 _ rfl
              rw [Nat.add_zero] at x0
              have k0 : ¬ (m : Int) < 0 := by omega
              have M10 := Lib.hid (M9.out.alloc' (b := wr.heap.size) rfl #[.int .i64 xk, .string xnm, .int .i64 xa, .int .i64 xb, .int .i64 xr, .int .i64 xl, .int .i64 xc, .int .i64 xg, .int .i64 xm, .int .i64 xcc, .bool xup] 27)
              have HRC := Lib.hid fun w' => record_any m (by omega) xk xnm xa xb xr xl xc xg xm xcc xup hxn w'
              clear hc hx hsm
              generalize record m ⟨xk, xnm, xa, xb, ⟨xr, xl, xc, xg⟩, ⟨xm, xcc, xup⟩⟩ = R at *
              have hrz := ba_size R
              have hrz2 : ((⟨R.toArray⟩ : ByteArray).size : Int) ≤ 300 := by omega
              clear hrz
              go_wp2_with ((with_reducible refine (HRC.out _).mono ?_); rintro e w11 ⟨rfl, h11⟩; have M11 := Lib.hid (M10.out.keep h11))
              go_roundw
              case rel => exact ⟨m + 1, _, rfl, by go_num, by omega, HC3.out, M11.out.take 2⟩
              case measure => (simp [intOf]) <;> omega
            · have HSC : Is s.data.toList (chkL r) := ⟨by
                have := HC.out.s
                rw [List.take_of_length_le (by rw [HON.out]; omega)] at this
                rw [this, ← HOO.out]; rfl⟩
              have hrec := fun w' => recover_any s (by omega) w'
              unfold RecTo at hrec
              rw [HSC.out, chk_parse HV.out HG.out, HOO.out] at hrec
              have HREC := Lib.hid hrec
              have HVO := Lib.hid (vr_recov O)
              obtain ⟨v2, hv2⟩ : ∃ v2, sameR (recov O) r = v2 := ⟨_, rfl⟩
              have HV2 : Is (sameR (recov O) r) v2 := ⟨hv2⟩
              have HCO : Is (chkOk r) v2 := ⟨by rw [chk_same HVR.out (by have := nm_len s; rw [HSC.out] at this; omega), HOO.out]; exact hv2⟩
              clear hrec hv2 HC
              obtain ⟨⟨a0, a1⟩, ⟨af0, af1⟩, alt⟩ := M9.out.box2 0 rfl
              go_wp2_with fail
              refine (HREC.out _).mono ?_
              rintro e w12 ⟨B1, m1, e1, B2, m2, e2, rfl, h12, hR, hcp⟩
              have hb1 : (m1 : Int) ≤ 1000000 := by have := hR.hs.1; have := HVO.out.hl; omega
              have hb2 : (m2 : Int) ≤ 1000000 := by have := hR.gs.1; have := HVO.out.gl; omega
              have M12 := Lib.hid ((M9.out.keep h12).alloc' (b := w12.heap.size) rfl #[.slice B1 m1 e1, .slice B2 m2 e2] 37)
              have HSA := Lib.hid (same_any B1 m1 e1 B2 m2 e2 HA hn hc GA gn gc (recov O) r _ (hR.held ((Held.refl w12).alloc (.cells #[.slice B1 m1 e1, .slice B2 m2 e2] 37))) (HR.out.held M12.out.held) hb1 hb2)
              rw [HV2.out] at HSA
              clear h12 hR hcp M9 HREC a0 a1 af0 af1 alt
              obtain ⟨⟨a0, a1⟩, ⟨af0, af1⟩, alt⟩ := M12.out.box2 0 rfl
              obtain ⟨⟨b0, b1⟩, ⟨bf0, bf1⟩, blt⟩ := M12.out.box2 2 rfl
              cases v2
              · go_wp2_with fail
                refine HSA.out.mono ?_
                rintro e w13 ⟨rfl, h13⟩
                go_wp2
                go_ret2
                exact ChkTo.no HCO.out (M12.out.keep h13).held
              · go_wp2_with fail
                refine HSA.out.mono ?_
                rintro e w13 ⟨rfl, h13⟩
                go_wp2
                go_ret2
                exact ChkTo.yes HCO.out HSC.out (M12.out.keep h13).held
end Jn
end Go.Proofs.Ytmmnanmegdflgaa

set_option linter.unusedVariables false
set_option linter.unusedSimpArgs false
set_option maxRecDepth 100000
namespace Go.Proofs.Ytmmnanmegdflgaa
open Go.RowKit Go.Lib Go.BigFrame Go.Sort
namespace Jn
open Ad Lgc Strs Lg
set_option maxHeartbeats 1000000 in
theorem encode_ref_any (k : Int) (nm : ByteArray) (a b r l c g m cc : Int) (up : Bool) (hs : (nm.size : Int) ≤ 1000000000) (w : World) :
    Calls Try.prog 30 #[.agg #[.int .i64 k, .string nm, .int .i64 a, .int .i64 b, .int .i64 r, .int .i64 l, .int .i64 c, .int .i64 g, .int .i64 m, .int .i64 cc, .bool up]] w
      (MakesS (enc ⟨k, nm, a, b, ⟨r, l, c, g⟩, ⟨m, cc, up⟩⟩) w) := by
  obtain ⟨z, hz⟩ : ∃ z, upZ up = z := ⟨_, rfl⟩
  have HE : Hid (enc ⟨k, nm, a, b, ⟨r, l, c, g⟩, ⟨m, cc, up⟩⟩ = encH ⟨k, nm, a, b, ⟨r, l, c, g⟩, ⟨m, cc, up⟩⟩ ++ encN [a, b, r, l, c, g, m, cc, z]) := show _ = _ by subst hz; rfl
  have HH : Hid (encH ⟨k, nm, a, b, ⟨r, l, c, g⟩, ⟨m, cc, up⟩⟩ = Uv.put (u64 k) ++ Uv.put nm.size ++ nm.data.toList) := show _ = _ by
    unfold encH; simp only [List.append_assoc]
    rw [← len_eq]
  have hHl := encH_len ⟨k, nm, a, b, ⟨r, l, c, g⟩, ⟨m, cc, up⟩⟩ (show (nm.size : Int) ≤ _ by omega)
  generalize encH ⟨k, nm, a, b, ⟨r, l, c, g⟩, ⟨m, cc, up⟩⟩ = E at *
  generalize enc ⟨k, nm, a, b, ⟨r, l, c, g⟩, ⟨m, cc, up⟩⟩ = F at *
  have hp1 := Uv.put_len (u64 k) (u64_lt _)
  have hp2 := Uv.put_len nm.size (by omega)
  have hu0 := u64_lt k
  obtain ⟨n1, hn1⟩ : ∃ n1, u64 k = n1 := ⟨_, rfl⟩
  have hu := u64_wrap k
  have hu2 : IntKind.u64.wrap (nm.size : Int) = (nm.size : Int) := by unfold IntKind.wrap; simp [IntKind.signed, IntKind.bits]; omega
  rw [hn1] at hu hp1 hu0 HH
  have H1 := Lib.hid (fun w => put_ref_any n1 (by omega) w)
  have H2 := Lib.hid (fun w => put_ref_any nm.size (by omega) w)
  generalize Uv.put n1 = p1 at hp1 H1 HH
  generalize Uv.put nm.size = p2 at hp2 H2 HH
  have hi : ∀ j : Nat, j < 9 → ∃ x, [a, b, r, l, c, g, m, cc, z][j]? = some x := by
    intro j hj
    rcases j with _ | _ | _ | _ | _ | _ | _ | _ | _ | j
    all_goals first | exact ⟨_, rfl⟩ | omega
  have HI := Lib.hid hi
  have hkey : (up = true ∧ z = 1) ∨ (up = false ∧ z = 0) := by
    subst hz
    cases up
    · exact .inr ⟨rfl, rfl⟩
    · exact .inl ⟨rfl, rfl⟩
  clear hi hz hn1
  rcases hkey with ⟨rfl, rfl⟩ | ⟨rfl, rfl⟩
  · go_enter Try.func30, Try.ntmps30
    go_wp2
    have HB := Lib.hid (box_new w (.cells #[.int .i64 k, .string nm, .int .i64 a, .int .i64 b, .int .i64 r, .int .i64 l, .int .i64 c, .int .i64 g, .int .i64 m, .int .i64 cc, .bool true] 27))
    have hw1 : Held w (w.alloc (.cells #[.int .i64 k, .string nm, .int .i64 a, .int .i64 b, .int .i64 r, .int .i64 l, .int .i64 c, .int .i64 g, .int .i64 m, .int .i64 cc, .bool true] 27)) := (Held.refl w).alloc _
    generalize (w.alloc (.cells #[.int .i64 k, .string nm, .int .i64 a, .int .i64 b, .int .i64 r, .int .i64 l, .int .i64 c, .int .i64 g, .int .i64 m, .int .i64 cc, .bool true] 27)) = w1 at *
    obtain ⟨⟨a0, a1, a2, a3, a4, a5, a6, a7, a8, a9, a10⟩, _⟩ := box11h HB.out
    have k0 := cell_regrown a0
    have k1 := cell_regrown a1
    have cA := Lib.hid fun d os => Calls.regrown_of (d := d) (os := os) (H1.out (grow (redrawn w1 d) os))
    have cB := Lib.hid fun d os => Calls.regrown_of (d := d) (os := os) (H2.out (grow (redrawn w1 d) os))
    refine wp_region_quiet_below (by kernel_rfl) (by kernel_rfl) ?_
    repeat (go_big_quiet_step (first | (go_at_call 54; (with_reducible exact cA.out _ _)) | (go_at_call 54; (with_reducible exact cB.out _ _))))
    refine wpQuiet_nil ?_
    intro w2 hw'
    obtain ⟨⟨dq, osq⟩, hw''⟩ := hw'
    have h12 : Held w1 w2 := by rw [hw'']; exact below_regrown w1 dq osq
    have HH2 := Lib.hid (hw1.step h12)
    have HB2 := Lib.hid (Bx.held HB.out h12)
    clear hw'' k0 k1 cA cB HB hw1 h12 a0 a1 a2 a3 a4 a5 a6 a7 a8 a9 a10 hu hu2 hu0
    obtain ⟨⟨a0, a1, a2, a3, a4, a5, a6, a7, a8, a9, a10⟩, _⟩ := box11h HB2.out
    obtain ⟨s0, hs0⟩ : ∃ s0 : ByteArray, ({ data := p1.toArray } : ByteArray) ++ { data := p2.toArray } ++ nm = s0 := ⟨_, rfl⟩
    have hcat : s0.data.toList = E := by rw [← hs0, HH.out]; simp
    have HCT := Lib.hid hcat
    rw [hs0]
    clear hs0 hcat HH
    go_wp2
    have hh3 : Held w (w2.alloc (.cells #[.int .i64 a, .int .i64 b, .int .i64 r, .int .i64 l, .int .i64 c, .int .i64 g, .int .i64 m, .int .i64 cc, .int .i64 1] 3)) := HH2.out.alloc _
    have hcells : ∀ (j : Nat) x, [a, b, r, l, c, g, m, cc, 1][j]? = some x → (w2.alloc (.cells #[.int .i64 a, .int .i64 b, .int .i64 r, .int .i64 l, .int .i64 c, .int .i64 g, .int .i64 m, .int .i64 cc, .int .i64 1] 3)).cell? ⟨w2.heap.size, j, none⟩ = some (.int .i64 x) := by
      intro j x hx
      refine Bx.cell (box_new w2 _) j ?_
      rcases j with _ | _ | _ | _ | _ | _ | _ | _ | _ | j
      all_goals first | (simp at hx; subst hx; rfl) | (simp at hx)
    have HC := Lib.hid hcells
    have HH3 := Lib.hid hh3
    clear hcells hh3 HB2 HH2 a0 a1 a2 a3 a4 a5 a6 a7 a8 a9 a10
    generalize hw3 : (w2.alloc (.cells #[.int .i64 a, .int .i64 b, .int .i64 r, .int .i64 l, .int .i64 c, .int .i64 g, .int .i64 m, .int .i64 cc, .int .i64 1] 3)) = w3 at *
    generalize hB : w2.heap.size = B at *
    clear hw3 hB
    go_loopw [4, 6] (fun v i wr => ∃ (j : Nat) (sr : ByteArray), j ≤ 9 ∧ i = .int .i64 j ∧ v = .string sr ∧ sr.data.toList = E ++ encN ([a, b, r, l, c, g, m, cc, 1].take j) ∧ Held w3 wr) (fun _ i _ => 9 - (intOf i).toNat)
    case atStart => exact ⟨0, s0, by omega, rfl, rfl, by rw [HCT.out]; simp [encN], Held.refl _⟩
    case round =>
      obtain ⟨j, sr, hj, rfl, rfl, hsr, hh⟩ := hrel
      have HSR := Lib.hid hsr
      have zsr := sz_of hsr
      have HHR := Lib.hid hh
      have hle := encN_len ([a, b, r, l, c, g, m, cc, 1].take j)
      have hl9 : ([a, b, r, l, c, g, m, cc, 1].take j).length ≤ 9 := by rw [List.length_take]; simp; omega
      rw [List.length_append] at zsr
      have zs2 : (sr.size : Int) ≤ 1000000001000 := by omega
      clear hsr zsr hle hl9
      by_cases hlt : j < 9
      · obtain ⟨x, hx⟩ := HI.out j hlt
        have hc := hh.cell (HC.out j x hx)
        have HS := Lib.hid (encN_at hx)
        have hux := u64_wrap x
        have hxl := u64_lt x
        have hpx := Uv.put_len (u64 x) hxl
        generalize u64 x = nx at *
        have hxl' : (nx : Int) ≤ 18446744073709551615 := by omega
        have HUX := Lib.hid hux
        clear hx hh hux
        go_wp2_with fail
        rw [HUX.out]
        refine (put_ref_any nx hxl' _).mono ?_
        rintro e w5 ⟨rfl, h5⟩
        go_wp2
        go_roundw
        case rel => exact ⟨j + 1, sr ++ ⟨(Uv.put nx).toArray⟩, by omega, by go_num, rfl, by rw [HS.out, ← List.append_assoc, ← HSR.out]; simp, HHR.out.step h5⟩
        case measure => simp [intOf]; omega
      · have HJ : Is j 9 := ⟨by omega⟩
        have hj9 : ¬ (j : Int) < 9 := by omega
        go_wp2
        go_ret
        exact ⟨ret_str (by rw [HSR.out, HJ.out, HE.out]; rfl), HH3.out.step HHR.out⟩
  · go_enter Try.func30, Try.ntmps30
    go_wp2
    have HB := Lib.hid (box_new w (.cells #[.int .i64 k, .string nm, .int .i64 a, .int .i64 b, .int .i64 r, .int .i64 l, .int .i64 c, .int .i64 g, .int .i64 m, .int .i64 cc, .bool false] 27))
    have hw1 : Held w (w.alloc (.cells #[.int .i64 k, .string nm, .int .i64 a, .int .i64 b, .int .i64 r, .int .i64 l, .int .i64 c, .int .i64 g, .int .i64 m, .int .i64 cc, .bool false] 27)) := (Held.refl w).alloc _
    generalize (w.alloc (.cells #[.int .i64 k, .string nm, .int .i64 a, .int .i64 b, .int .i64 r, .int .i64 l, .int .i64 c, .int .i64 g, .int .i64 m, .int .i64 cc, .bool false] 27)) = w1 at *
    obtain ⟨⟨a0, a1, a2, a3, a4, a5, a6, a7, a8, a9, a10⟩, _⟩ := box11h HB.out
    have k0 := cell_regrown a0
    have k1 := cell_regrown a1
    have cA := Lib.hid fun d os => Calls.regrown_of (d := d) (os := os) (H1.out (grow (redrawn w1 d) os))
    have cB := Lib.hid fun d os => Calls.regrown_of (d := d) (os := os) (H2.out (grow (redrawn w1 d) os))
    refine wp_region_quiet_below (by kernel_rfl) (by kernel_rfl) ?_
    repeat (go_big_quiet_step (first | (go_at_call 54; (with_reducible exact cA.out _ _)) | (go_at_call 54; (with_reducible exact cB.out _ _))))
    refine wpQuiet_nil ?_
    intro w2 hw'
    obtain ⟨⟨dq, osq⟩, hw''⟩ := hw'
    have h12 : Held w1 w2 := by rw [hw'']; exact below_regrown w1 dq osq
    have HH2 := Lib.hid (hw1.step h12)
    have HB2 := Lib.hid (Bx.held HB.out h12)
    clear hw'' k0 k1 cA cB HB hw1 h12 a0 a1 a2 a3 a4 a5 a6 a7 a8 a9 a10 hu hu2 hu0
    obtain ⟨⟨a0, a1, a2, a3, a4, a5, a6, a7, a8, a9, a10⟩, _⟩ := box11h HB2.out
    obtain ⟨s0, hs0⟩ : ∃ s0 : ByteArray, ({ data := p1.toArray } : ByteArray) ++ { data := p2.toArray } ++ nm = s0 := ⟨_, rfl⟩
    have hcat : s0.data.toList = E := by rw [← hs0, HH.out]; simp
    have HCT := Lib.hid hcat
    rw [hs0]
    clear hs0 hcat HH
    go_wp2
    have hh3 : Held w (w2.alloc (.cells #[.int .i64 a, .int .i64 b, .int .i64 r, .int .i64 l, .int .i64 c, .int .i64 g, .int .i64 m, .int .i64 cc, .int .i64 0] 3)) := HH2.out.alloc _
    have hcells : ∀ (j : Nat) x, [a, b, r, l, c, g, m, cc, 0][j]? = some x → (w2.alloc (.cells #[.int .i64 a, .int .i64 b, .int .i64 r, .int .i64 l, .int .i64 c, .int .i64 g, .int .i64 m, .int .i64 cc, .int .i64 0] 3)).cell? ⟨w2.heap.size, j, none⟩ = some (.int .i64 x) := by
      intro j x hx
      refine Bx.cell (box_new w2 _) j ?_
      rcases j with _ | _ | _ | _ | _ | _ | _ | _ | _ | j
      all_goals first | (simp at hx; subst hx; rfl) | (simp at hx)
    have HC := Lib.hid hcells
    have HH3 := Lib.hid hh3
    clear hcells hh3 HB2 HH2 a0 a1 a2 a3 a4 a5 a6 a7 a8 a9 a10
    generalize hw3 : (w2.alloc (.cells #[.int .i64 a, .int .i64 b, .int .i64 r, .int .i64 l, .int .i64 c, .int .i64 g, .int .i64 m, .int .i64 cc, .int .i64 0] 3)) = w3 at *
    generalize hB : w2.heap.size = B at *
    clear hw3 hB
    go_loopw [4, 6] (fun v i wr => ∃ (j : Nat) (sr : ByteArray), j ≤ 9 ∧ i = .int .i64 j ∧ v = .string sr ∧ sr.data.toList = E ++ encN ([a, b, r, l, c, g, m, cc, 0].take j) ∧ Held w3 wr) (fun _ i _ => 9 - (intOf i).toNat)
    case atStart => exact ⟨0, s0, by omega, rfl, rfl, by rw [HCT.out]; simp [encN], Held.refl _⟩
    case round =>
      obtain ⟨j, sr, hj, rfl, rfl, hsr, hh⟩ := hrel
      have HSR := Lib.hid hsr
      have zsr := sz_of hsr
      have HHR := Lib.hid hh
      have hle := encN_len ([a, b, r, l, c, g, m, cc, 0].take j)
      have hl9 : ([a, b, r, l, c, g, m, cc, 0].take j).length ≤ 9 := by rw [List.length_take]; simp; omega
      rw [List.length_append] at zsr
      have zs2 : (sr.size : Int) ≤ 1000000001000 := by omega
      clear hsr zsr hle hl9
      by_cases hlt : j < 9
      · obtain ⟨x, hx⟩ := HI.out j hlt
        have hc := hh.cell (HC.out j x hx)
        have HS := Lib.hid (encN_at hx)
        have hux := u64_wrap x
        have hxl := u64_lt x
        have hpx := Uv.put_len (u64 x) hxl
        generalize u64 x = nx at *
        have hxl' : (nx : Int) ≤ 18446744073709551615 := by omega
        have HUX := Lib.hid hux
        clear hx hh hux
        go_wp2_with fail
        rw [HUX.out]
        refine (put_ref_any nx hxl' _).mono ?_
        rintro e w5 ⟨rfl, h5⟩
        go_wp2
        go_roundw
        case rel => exact ⟨j + 1, sr ++ ⟨(Uv.put nx).toArray⟩, by omega, by go_num, rfl, by rw [HS.out, ← List.append_assoc, ← HSR.out]; simp, HHR.out.step h5⟩
        case measure => simp [intOf]; omega
      · have HJ : Is j 9 := ⟨by omega⟩
        have hj9 : ¬ (j : Int) < 9 := by omega
        go_wp2
        go_ret
        exact ⟨ret_str (by rw [HSR.out, HJ.out, HE.out]; rfl), HH3.out.step HHR.out⟩
end Jn
end Go.Proofs.Ytmmnanmegdflgaa

set_option linter.unusedVariables false
set_option linter.unusedSimpArgs false
set_option maxRecDepth 100000
namespace Go.Proofs.Ytmmnanmegdflgaa
open Go.RowKit Go.Lib
namespace Jn
open Ad Lgc Strs Lg
theorem dS_bad {l : List UInt8} (h : (dK l).2.2 = true) : dB l = true := by
  unfold dB dS dataR
  rw [h, numR_bad]; simp [bytesR]
theorem dec_bad {l : List UInt8} (h : dB l = true) : decOk l = false := by
  unfold decOk reads; rw [h, st_bad]; rfl
theorem dec_no1 {l : List UInt8} (h : Uv.uvB l = false) : decOk l = false := dec_bad (dS_bad (by unfold dK; rw [numR_no (by rw [h]; rfl)]))
theorem dK_yes {l : List UInt8} (h : Uv.uvB l = true) : dK l = (Uv.uvX l, l.drop (Uv.uvN l), false) := numR_yes h
theorem dec_no2 {l l1 : List UInt8} {x : Nat} (hk : dK l = (x, l1, false)) (h : Uv.uvB l1 = false) : decOk l = false :=
  dec_bad (by unfold dB dS dataR; rw [hk]; simp only; rw [numR_no (by rw [h]; rfl)]; simp [bytesR])
theorem dS_yes {l l1 : List UInt8} {x : Nat} (hk : dK l = (x, l1, false)) (h : Uv.uvB l1 = true) (hs : Uv.uvX l1 ≤ (l1.drop (Uv.uvN l1)).length) :
    dS l = ((l1.drop (Uv.uvN l1)).take (Uv.uvX l1), (l1.drop (Uv.uvN l1)).drop (Uv.uvX l1), false) := by
  unfold dS dataR; rw [hk]; simp only; rw [numR_yes h]; simp only; exact bytesR_yes (by omega)
theorem dec_no3 {l l1 : List UInt8} {x : Nat} (hk : dK l = (x, l1, false)) (h : Uv.uvB l1 = true) (hs : (l1.drop (Uv.uvN l1)).length < Uv.uvX l1) : decOk l = false :=
  dec_bad (by unfold dB dS dataR; rw [hk]; simp only; rw [numR_yes h]; simp only; rw [bytesR_no (by rw [List.length_drop] at hs; simp; omega)])
theorem dec_no4 {l r : List UInt8} {j : Nat} (hb : dB l = false) (hs : st (dR l) false j = (r, false)) (hj : j < 9) (h : Uv.uvB r = false) : decOk l = false := by
  have h1 : (st (dR l) false (j + 1)).2 = true := by rw [st_succ, hs]; simp only; rw [numR_no (by rw [h]; rfl)]
  unfold decOk reads; rw [hb, st_stay h1 9 (by omega)]; rfl
theorem st_yes {l r : List UInt8} {j : Nat} (hs : st l false j = (r, false)) (h : Uv.uvB r = true) : st l false (j + 1) = (r.drop (Uv.uvN r), false) ∧ nv l false j = Uv.uvX r := by
  refine ⟨?_, ?_⟩
  · rw [st_succ, hs]; simp only; rw [numR_yes h]
  · unfold nv; rw [hs]; simp only; rw [numR_yes h]
theorem dec_end {l r : List UInt8} (hb : dB l = false) (hs : st (dR l) false 9 = (r, false)) : reads l = true ∧ done l = decide (r = []) ∧ decOk l = (decide (dN l 8 ≤ 1) && decide (r = [])) := by
  have e0 : st (dR l) (dB l) 9 = (r, false) := by rw [hb]; exact hs
  have h1 : reads l = true := by unfold reads; rw [e0]; rfl
  have h2 : done l = decide (r = []) := by unfold done; rw [e0]
  exact ⟨h1, h2, by unfold decOk; rw [h1, h2, Bool.true_and]⟩
/-- Whether the encoding of what was read is what was read from. -/
theorem dec_last {l : List UInt8} (hb : dB l = false) (hs : st (dR l) false 9 = ([], false)) : decOk l = decide (enc (decoded l) = l) := by
  obtain ⟨h1, h2, h3⟩ := dec_end hb hs
  have h2 : done l = true := by rw [h2]; rfl
  by_cases h8 : dN l 8 ≤ 1
  · have : decOk l = true := by rw [h3]; simp [h8]
    rw [this, enc_dec l this]; simp
  · have : decOk l = false := by rw [h3]; simp [h8]
    rw [this]; exact (decide_eq_false (enc_ne l h1 h2 h8)).symm
def lArr (F : Nat → Int) (j : Nat) : Array Value := #[.int .i64 (if 0 < j then F 0 else 0), .int .i64 (if 1 < j then F 1 else 0), .int .i64 (if 2 < j then F 2 else 0), .int .i64 (if 3 < j then F 3 else 0), .int .i64 (if 4 < j then F 4 else 0),
    .int .i64 (if 5 < j then F 5 else 0), .int .i64 (if 6 < j then F 6 else 0), .int .i64 (if 7 < j then F 7 else 0), .int .i64 (if 8 < j then F 8 else 0)]
theorem lArr_step (F : Nat → Int) (j : Nat) (hj : j < 9) : (lArr F j).setIfInBounds j (.int .i64 (F j)) = lArr F (j + 1) := by
  rcases j with _ | _ | _ | _ | _ | _ | _ | _ | _ | j
  all_goals first | rfl | omega
theorem lArr_at (F : Nat → Int) (j i : Nat) (hi : i < 9) : ∃ v, (lArr F j)[i]? = some v := by
  rcases i with _ | _ | _ | _ | _ | _ | _ | _ | _ | i
  all_goals first | exact ⟨_, rfl⟩ | omega
theorem put9 {W w : World} {H : List Ck} {b : Nat} {t : TypeId} {y0 y1 y2 y3 y4 y5 y6 y7 y8 y9 y10 : Value} (h : Mem W w H) (i : Nat) (hi : H[i]? = some (.box b #[y0, y1, y2, y3, y4, y5, y6, y7, y8, y9, y10] t)) (x2 x3 x4 x5 x6 x7 x8 x9 x10 : Value) :
    Mem W (((((((((w.setCell ⟨b, 2, none⟩ x2).setCell ⟨b, 3, none⟩ x3).setCell ⟨b, 4, none⟩ x4).setCell ⟨b, 5, none⟩ x5).setCell ⟨b, 6, none⟩ x6).setCell ⟨b, 7, none⟩ x7).setCell ⟨b, 8, none⟩ x8).setCell ⟨b, 9, none⟩ x9).setCell ⟨b, 10, none⟩ x10) (H.set i (.box b #[y0, y1, x2, x3, x4, x5, x6, x7, x8, x9, x10] t)) := by
  have li := (List.getElem?_eq_some_iff.1 hi).1
  have h2 := h.put i hi 2 x2
  have h3 := h2.put (b := b) (cs := #[y0, y1, x2, y3, y4, y5, y6, y7, y8, y9, y10]) (t := t) i (by rw [List.getElem?_set_self li]; rfl) 3 x3
  rw [List.set_set] at h3
  have h4 := h3.put (b := b) (cs := #[y0, y1, x2, x3, y4, y5, y6, y7, y8, y9, y10]) (t := t) i (by rw [List.getElem?_set_self li]; rfl) 4 x4
  rw [List.set_set] at h4
  have h5 := h4.put (b := b) (cs := #[y0, y1, x2, x3, x4, y5, y6, y7, y8, y9, y10]) (t := t) i (by rw [List.getElem?_set_self li]; rfl) 5 x5
  rw [List.set_set] at h5
  have h6 := h5.put (b := b) (cs := #[y0, y1, x2, x3, x4, x5, y6, y7, y8, y9, y10]) (t := t) i (by rw [List.getElem?_set_self li]; rfl) 6 x6
  rw [List.set_set] at h6
  have h7 := h6.put (b := b) (cs := #[y0, y1, x2, x3, x4, x5, x6, y7, y8, y9, y10]) (t := t) i (by rw [List.getElem?_set_self li]; rfl) 7 x7
  rw [List.set_set] at h7
  have h8 := h7.put (b := b) (cs := #[y0, y1, x2, x3, x4, x5, x6, x7, y8, y9, y10]) (t := t) i (by rw [List.getElem?_set_self li]; rfl) 8 x8
  rw [List.set_set] at h8
  have h9 := h8.put (b := b) (cs := #[y0, y1, x2, x3, x4, x5, x6, x7, x8, y9, y10]) (t := t) i (by rw [List.getElem?_set_self li]; rfl) 9 x9
  rw [List.set_set] at h9
  have h10 := h9.put (b := b) (cs := #[y0, y1, x2, x3, x4, x5, x6, x7, x8, x9, y10]) (t := t) i (by rw [List.getElem?_set_self li]; rfl) 10 x10
  rw [List.set_set] at h10
  exact h10
theorem i64_one {n : Nat} (h : n < 18446744073709551616) : (i64 n = 1) ↔ (n = 1) := by
  constructor
  · intro e
    have := u64_i64 h
    rw [e] at this
    exact this.symm
  · rintro rfl; rfl
set_option maxHeartbeats 2000000 in
theorem decode_ref_any (s : ByteArray) (hs : (s.size : Int) ≤ 1000000000) (w : World) : Calls Try.prog 21 #[.string s] w (DecTo s.data.toList w) := by
  obtain ⟨l, hl⟩ : ∃ l, s.data.toList = l := ⟨_, rfl⟩
  have HS := Lib.hid hl
  obtain ⟨hsa, hsb⟩ : s.size ≤ l.length ∧ l.length ≤ s.size := by have := sz_of hl; omega
  have hn0 := Uv.uvN_le l
  have M0 : Hid (Mem w _ [.box w.heap.size #[.int .i64 0, .string ⟨#[]⟩, .int .i64 0, .int .i64 0, .int .i64 0, .int .i64 0, .int .i64 0, .int .i64 0, .int .i64 0, .int .i64 0, .bool false] 27, .box (w.heap.size + 1) #[.int .i64 0, .string ⟨#[]⟩, .int .i64 0, .int .i64 0, .int .i64 0, .int .i64 0, .int .i64 0, .int .i64 0, .int .i64 0, .int .i64 0, .bool false] 27]) := (((Mem.start w).alloc' (b := w.heap.size) rfl #[.int .i64 0, .string ⟨#[]⟩, .int .i64 0, .int .i64 0, .int .i64 0, .int .i64 0, .int .i64 0, .int .i64 0, .int .i64 0, .int .i64 0, .bool false] 27).alloc' (b := w.heap.size + 1) (by simp) #[.int .i64 0, .string ⟨#[]⟩, .int .i64 0, .int .i64 0, .int .i64 0, .int .i64 0, .int .i64 0, .int .i64 0, .int .i64 0, .int .i64 0, .bool false] 27)
  rw [hl]
  obtain ⟨n0, hn0'⟩ : ∃ n0, Uv.uvN l = n0 := ⟨_, rfl⟩
  have HN0 := Lib.hid hn0'
  rw [hn0'] at hn0
  obtain ⟨k0, hk0⟩ : ∃ k0, Uv.uvB l = k0 := ⟨_, rfl⟩
  have HK0 : Is (Uv.uvB l) k0 := ⟨hk0⟩
  have i0 : (n0 : Int) ≤ (s.size : Int) := by omega
  clear hl hn0' hk0
  cases k0
  · have hno : Is (decOk l) false := ⟨dec_no1 HK0.out⟩
    go_enter Try.func21, Try.ntmps21
    go_wp2_with (go_at_call 52; refine (uv_ref_any s (by omega) _).mono ?_; rintro e w' ⟨rfl, rfl⟩; rw [HS.out, HK0.out, HN0.out])
    go_wp2
    refine bodyPost_ret (Bx.res_ct Try.results21 rfl (man_load (o := zeroM) (M0.out.blk 0 rfl))) rfl ⟨?_, M0.out.held⟩
    unfold dec; rw [hno.out]; rfl
  obtain ⟨x0, hx0⟩ : ∃ x0, Uv.uvX l = x0 := ⟨_, rfl⟩
  have HX0 := Lib.hid hx0
  have HDK : Is (dK l) (x0, l.drop n0, false) := ⟨by rw [dK_yes HK0.out, HN0.out, HX0.out]⟩
  obtain ⟨s1, hs1⟩ : ∃ s1 : ByteArray, s.extract n0 s.size = s1 := ⟨_, rfl⟩
  have hl1 : s1.data.toList = l.drop n0 := by rw [← hs1, ext_drop, HS.out]
  have HS1x := Lib.hid hs1
  obtain ⟨l1, hl1'⟩ : ∃ l1, l.drop n0 = l1 := ⟨_, rfl⟩
  rw [hl1'] at HDK hl1
  have HS1 := Lib.hid hl1
  obtain ⟨hs1a, hs1b⟩ : s1.size ≤ l1.length ∧ l1.length ≤ s1.size := by have := sz_of hl1; omega
  have hle1 : l1.length ≤ l.length := by rw [← hl1', List.length_drop]; omega
  have hn1 := Uv.uvN_le l1
  obtain ⟨n1, hn1'⟩ : ∃ n1, Uv.uvN l1 = n1 := ⟨_, rfl⟩
  have HN1 := Lib.hid hn1'
  rw [hn1'] at hn1
  obtain ⟨k1, hk1⟩ : ∃ k1, Uv.uvB l1 = k1 := ⟨_, rfl⟩
  have HK1 : Is (Uv.uvB l1) k1 := ⟨hk1⟩
  obtain ⟨x1, hx1⟩ : ∃ x1, Uv.uvX l1 = x1 := ⟨_, rfl⟩
  have HX1 := Lib.hid hx1
  have hx1l := Uv.uvX_lt l1
  rw [hx1] at hx1l
  have i1 : (n1 : Int) ≤ (s1.size : Int) := by omega
  have i2 : (s1.size : Int) ≤ 1000000000 := by omega
  clear hs1 hl1 hl1' hn1' hk1 hx1 hx0
  cases k1
  · have hno : Is (decOk l) false := ⟨dec_no2 HDK.out HK1.out⟩
    go_enter Try.func21, Try.ntmps21
    go_wp2_with fail
    refine (uv_ref_any s (by omega) _).mono ?_; rintro e w' ⟨rfl, rfl⟩; rw [HS.out, HK0.out, HN0.out]
    go_wp2_with fail
    rw [HS1x.out]
    refine (uv_ref_any s1 (by omega) _).mono ?_; rintro e w' ⟨rfl, rfl⟩; rw [HS1.out, HK1.out, HN1.out]
    go_wp2
    refine bodyPost_ret (Bx.res_ct Try.results21 rfl (man_load (o := zeroM) (M0.out.blk 0 rfl))) rfl ⟨?_, M0.out.held⟩
    unfold dec; rw [hno.out]; rfl
  obtain ⟨s2, hs2⟩ : ∃ s2 : ByteArray, s1.extract n1 s1.size = s2 := ⟨_, rfl⟩
  obtain ⟨l2, hl2'⟩ : ∃ l2, l1.drop n1 = l2 := ⟨_, rfl⟩
  have hl2 : s2.data.toList = l2 := by rw [← hs2, ext_drop, HS1.out, hl2']
  obtain ⟨hz2a, hz2b⟩ : l2.length ≤ l1.length - n1 ∧ l1.length - n1 ≤ l2.length := by rw [← hl2', List.length_drop]; omega
  have HL2 := Lib.hid hl2'
  clear hs2 hl2' hl2
  by_cases hx : (s1.size : Int) - n1 < (x1 : Int)
  · have hno : Is (decOk l) false := ⟨dec_no3 HDK.out HK1.out (by rw [HN1.out, HX1.out, HL2.out]; omega)⟩
    go_enter Try.func21, Try.ntmps21
    go_wp2_with fail
    refine (uv_ref_any s (by omega) _).mono ?_; rintro e w' ⟨rfl, rfl⟩; rw [HS.out, HK0.out, HN0.out]
    go_wp2_with fail
    rw [HS1x.out]
    refine (uv_ref_any s1 (by omega) _).mono ?_; rintro e w' ⟨rfl, rfl⟩; rw [HS1.out, HK1.out, HN1.out, HX1.out]
    go_wp2
    refine bodyPost_ret (Bx.res_ct Try.results21 rfl (man_load (o := zeroM) (M0.out.blk 0 rfl))) rfl ⟨?_, M0.out.held⟩
    unfold dec; rw [hno.out]; rfl
  have HSY : Is (dS l) (l2.take x1, l2.drop x1, false) := ⟨by rw [dS_yes HDK.out HK1.out (by rw [HN1.out, HX1.out, HL2.out]; omega), HN1.out, HX1.out, HL2.out]⟩
  have i3 : (n1 : Int) + x1 ≤ (s1.size : Int) := by omega
  go_enter Try.func21, Try.ntmps21
  go_wp2_with fail
  refine (uv_ref_any s (by omega) _).mono ?_; rintro e w' ⟨rfl, rfl⟩; rw [HS.out, HK0.out, HN0.out, HX0.out]
  go_wp2_with fail
  rw [HS1x.out]
  refine (uv_ref_any s1 (by omega) _).mono ?_; rintro e w' ⟨rfl, rfl⟩; rw [HS1.out, HK1.out, HN1.out, HX1.out]
  have hdx : decide ((s1.size : Int) - n1 < (x1 : Int)) = false := decide_eq_false (by omega)
  go_wp2
  rw [wrap_i64]
  obtain ⟨nm, hnm⟩ : ∃ nm, s1.extract n1 (n1 + x1) = nm := ⟨_, rfl⟩
  obtain ⟨s3, hs3⟩ : ∃ s3, s1.extract (n1 + x1) s1.size = s3 := ⟨_, rfl⟩
  have HNM : Is nm.data.toList (dS l).1 := ⟨by rw [HSY.out, ← HL2.out, ← hnm]; simp [HS1.out, List.extract_eq_take_drop]⟩
  have HS3 : Is s3.data.toList (dR l) := ⟨by unfold dR; rw [HSY.out, ← HL2.out, ← hs3, ext_drop, HS1.out, List.drop_drop]⟩
  have HB : Is (dB l) false := ⟨by unfold dB; rw [HSY.out]⟩
  have q4 : (dR l).length ≤ 1000000000 := by
    have h1 : dR l = l2.drop x1 := by unfold dR; rw [HSY.out]
    rw [h1, List.length_drop]; omega
  have HK : Is (dK l).1 x0 := ⟨by rw [HDK.out]⟩
  rw [hnm, hs3]
  have M1 : Hid (Mem w _ [.box w.heap.size #[.int .i64 0, .string ⟨#[]⟩, .int .i64 0, .int .i64 0, .int .i64 0, .int .i64 0, .int .i64 0, .int .i64 0, .int .i64 0, .int .i64 0, .bool false] 27, .box (w.heap.size + 1) #[.int .i64 (i64 x0), .string nm, .int .i64 0, .int .i64 0, .int .i64 0, .int .i64 0, .int .i64 0, .int .i64 0, .int .i64 0, .int .i64 0, .bool false] 27, .box (w.heap.size + 1 + 1) (lArr (fun j => i64 (dN l j)) 0) 69]) :=
    ((((Mem.start w).alloc' (b := w.heap.size) rfl #[.int .i64 0, .string ⟨#[]⟩, .int .i64 0, .int .i64 0, .int .i64 0, .int .i64 0, .int .i64 0, .int .i64 0, .int .i64 0, .int .i64 0, .bool false] 27).alloc' (b := w.heap.size + 1) (by simp) #[.int .i64 (i64 x0), .string nm, .int .i64 0, .int .i64 0, .int .i64 0, .int .i64 0, .int .i64 0, .int .i64 0, .int .i64 0, .int .i64 0, .bool false] 27).alloc' (b := w.heap.size + 1 + 1) (by simp) (lArr (fun j => i64 (dN l j)) 0) 69)
  obtain ⟨F, hF⟩ : ∃ F : Nat → Int, (fun j => i64 (dN l j)) = F := ⟨_, rfl⟩
  have HF : Is F (fun j => i64 (dN l j)) := ⟨hF.symm⟩
  rw [hF] at M1
  clear hF hnm hs3 hdx hx hx1l i0 i1 i2 i3 hn0 hn1 hle1 hs1a hs1b hz2a hz2b HL2 HSY HDK M0 HX1 HN1 HK1 HN0 HK0 HX0
  go_loopw [8, 11] (fun v i wr => ∃ (j : Nat) (sr : ByteArray), j ≤ 9 ∧ i = .int .i64 j ∧ v = .string sr ∧ Is (st (dR l) false j) (sr.data.toList, false) ∧ Mem w wr [.box w.heap.size #[.int .i64 0, .string ⟨#[]⟩, .int .i64 0, .int .i64 0, .int .i64 0, .int .i64 0, .int .i64 0, .int .i64 0, .int .i64 0, .int .i64 0, .bool false] 27, .box (w.heap.size + 1) #[.int .i64 (i64 x0), .string nm, .int .i64 0, .int .i64 0, .int .i64 0, .int .i64 0, .int .i64 0, .int .i64 0, .int .i64 0, .int .i64 0, .bool false] 27, .box (w.heap.size + 1 + 1) (lArr F j) 69]) (fun _ i _ => 9 - (intOf i).toNat)
  case atStart => exact ⟨0, s3, by omega, rfl, rfl, ⟨by rw [HS3.out]; rfl⟩, M1.out⟩
  case round =>
    clear M1
    obtain ⟨j, sr, hj, rfl, rfl, hst, hM⟩ := hrel
    have M7 := Lib.hid hM
    clear hM
    obtain ⟨r, hr⟩ : ∃ r, sr.data.toList = r := ⟨_, rfl⟩
    have HR := Lib.hid hr
    rw [hr] at hst
    have hrl : r.length ≤ 1000000000 := by have := st_len (dR l) false j; rw [hst.out] at this; exact Nat.le_trans this q4
    obtain ⟨hra, hrb⟩ : sr.size ≤ r.length ∧ r.length ≤ sr.size := by have := sz_of hr; omega
    clear hr
    by_cases hlt : j < 9
    · have hnn := Uv.uvN_le r
      obtain ⟨nn, hnn'⟩ : ∃ nn, Uv.uvN r = nn := ⟨_, rfl⟩
      have HNN := Lib.hid hnn'
      rw [hnn'] at hnn
      obtain ⟨xx, hxx⟩ : ∃ xx, Uv.uvX r = xx := ⟨_, rfl⟩
      have HXX := Lib.hid hxx
      obtain ⟨bb, hbb⟩ : ∃ bb, Uv.uvB r = bb := ⟨_, rfl⟩
      have HBB : Is (Uv.uvB r) bb := ⟨hbb⟩
      clear hnn' hxx hbb
      have i5 : (nn : Int) ≤ sr.size := by omega
      cases bb
      · have hno : Is (decOk l) false := ⟨dec_no4 HB.out hst.out hlt HBB.out⟩
        obtain ⟨⟨a0, a1, a2, a3, a4, a5, a6, a7, a8, a9, a10⟩, ⟨g0, g1, g2, g3, g4, g5, g6, g7, g8, g9, g10⟩, lta⟩ := M7.out.box11 0 rfl
        go_wp2_with fail
        refine (uv_ref_any sr (by omega) _).mono ?_; rintro e w' ⟨rfl, rfl⟩; rw [HR.out, HBB.out, HNN.out, HXX.out]
        go_wp2
        have MF := M7.out.put11 0 rfl (.int .i64 0) (.string ⟨#[]⟩) (.int .i64 0) (.int .i64 0) (.int .i64 0) (.int .i64 0) (.int .i64 0) (.int .i64 0) (.int .i64 0) (.int .i64 0) (.bool false)
        refine bodyPost_ret (Bx.res_ct Try.results21 rfl (man_load (o := zeroM) (MF.blk 0 rfl))) rfl ⟨?_, MF.held⟩
        unfold dec; rw [hno.out]; rfl
      · obtain ⟨y1, y2⟩ := st_yes hst.out HBB.out
        have HY1 : Is (st (dR l) false (j + 1)) (r.drop nn, false) := ⟨by rw [y1, HNN.out]⟩
        have HY2 : Is (F j) (i64 xx) := ⟨by rw [HF.out]; simp only; unfold dN; rw [HB.out, y2, HXX.out]⟩
        clear y1 y2
        obtain ⟨v0, hv0⟩ := lArr_at F j j hlt
        have c2 := M7.out.cell 2 rfl j hv0
        have f2 := M7.out.free 2 rfl j
        clear hv0
        go_wp2_with fail
        refine (uv_ref_any sr (by omega) _).mono ?_; rintro e w' ⟨rfl, rfl⟩; rw [HR.out, HBB.out, HNN.out, HXX.out]
        go_wp2
        have M9 := M7.out.put 2 rfl j (.int .i64 (F j))
        rw [lArr_step _ _ hlt, HY2.out, ← wrap_i64] at M9
        go_roundw
        case rel => exact ⟨j + 1, sr.extract nn sr.size, by omega, by go_num, rfl, ⟨by rw [HY1.out, ext_drop, HR.out]⟩, M9⟩
        case measure => simp [intOf]; omega
    · have HJ : Is j 9 := ⟨by omega⟩
      have hj9 : ¬ (j : Int) < 9 := by omega
      obtain ⟨f0, f1, f2, f3, f4, f5, f6, f7, f8, HA, HD⟩ : ∃ f0 f1 f2 f3 f4 f5 f6 f7 f8, Is (lArr F j) #[.int .i64 f0, .int .i64 f1, .int .i64 f2, .int .i64 f3, .int .i64 f4, .int .i64 f5, .int .i64 f6, .int .i64 f7, .int .i64 f8] ∧
          Is (decoded l) ⟨i64 x0, nm, f0, f1, ⟨f2, f3, f4, f5⟩, ⟨f6, f7, f8 == 1⟩⟩ := by
        refine ⟨_, _, _, _, _, _, _, _, _, ⟨rfl⟩, ⟨?_⟩⟩
        rw [HJ.out, HF.out]
        simp only [Nat.reduceLT, if_true, ite_true]
        refine man_ext ?_ ?_ ?_
        · show i64 (dK l).1 = i64 x0
          rw [HK.out]
        · show (⟨(dS l).1.toArray⟩ : ByteArray) = nm
          rw [← HNM.out]
        · have : (i64 (dN l 8) == 1) = decide (dN l 8 = 1) := by rw [Bool.eq_iff_iff, beq_iff_eq, decide_eq_true_eq]; exact i64_one (nv_lt _ _ _)
          simp only [nums, decoded, this]
      have M8 := M7.out
      rw [HA.out] at M8
      have M8' := Lib.hid M8
      have HST : ∀ k, k = j → Is (st (dR l) false k) (r, false) := fun k hk => by subst hk; exact hst
      have HST9 := HST 9 HJ.out.symm
      clear M7 M8 HA HF HST hst
      have z0 := M8'.out.cell 2 rfl 0 rfl
      have z1 := M8'.out.cell 2 rfl 1 rfl
      have z2 := M8'.out.cell 2 rfl 2 rfl
      have z3 := M8'.out.cell 2 rfl 3 rfl
      have z4 := M8'.out.cell 2 rfl 4 rfl
      have z5 := M8'.out.cell 2 rfl 5 rfl
      have z6 := M8'.out.cell 2 rfl 6 rfl
      have z7 := M8'.out.cell 2 rfl 7 rfl
      have z8 := M8'.out.cell 2 rfl 8 rfl
      have z9 := M8'.out.lt 2 rfl
      obtain ⟨⟨b0, b1, b2, b3, b4, b5, b6, b7, b8, b9, b10⟩, ⟨h0, h1, h2, h3, h4, h5, h6, h7, h8, h9, h10⟩, ltb⟩ := M8'.out.box11 1 rfl
      have lta := M8'.out.lt 0 rfl
      go_upto_region 25 with (fail)
      have M9 := put9 M8'.out 1 rfl (.int .i64 f0) (.int .i64 f1) (.int .i64 f2) (.int .i64 f3) (.int .i64 f4) (.int .i64 f5) (.int .i64 f6) (.int .i64 f7) (.bool (f8 == 1))
      dsimp only [List.set] at M9
      obtain ⟨w9, hw9⟩ : ∃ w9, (((((((((wr.setCell ⟨w.heap.size + 1, 2, none⟩ (.int .i64 f0)).setCell ⟨w.heap.size + 1, 3, none⟩ (.int .i64 f1)).setCell ⟨w.heap.size + 1, 4, none⟩ (.int .i64 f2)).setCell ⟨w.heap.size + 1, 5, none⟩ (.int .i64 f3)).setCell ⟨w.heap.size + 1, 6, none⟩ (.int .i64 f4)).setCell ⟨w.heap.size + 1, 7, none⟩ (.int .i64 f5)).setCell ⟨w.heap.size + 1, 8, none⟩ (.int .i64 f6)).setCell ⟨w.heap.size + 1, 9, none⟩ (.int .i64 f7)).setCell ⟨w.heap.size + 1, 10, none⟩ (.bool (f8 == 1))) = w9 := ⟨_, rfl⟩
      rw [hw9] at M9 ⊢
      have M10 := Lib.hid M9
      clear M8' M9 hw9 z0 z1 z2 z3 z4 z5 z6 z7 z8 z9 b0 b1 b2 b3 b4 b5 b6 b7 b8 b9 b10 h0 h1 h2 h3 h4 h5 h6 h7 h8 h9 h10 lta ltb
      cases r with
      | cons c r =>
        have hno : Is (decOk l) false := ⟨by rw [(dec_end HB.out HST9.out).2.2]; simp⟩
        have ne1 : ¬ sr.toList = [] := by rw [ByteArray.toList_eq, HR.out]; simp
        have ne2 : (!sr.toList.isEmpty) = true := by rw [ByteArray.toList_eq, HR.out]; rfl
        have ne3 : sr.toList.isEmpty = false := by rw [ByteArray.toList_eq, HR.out]; rfl
        clear HST9
        obtain ⟨⟨a0, a1, a2, a3, a4, a5, a6, a7, a8, a9, a10⟩, ⟨g0, g1, g2, g3, g4, g5, g6, g7, g8, g9, g10⟩, lta⟩ := M10.out.box11 0 rfl
        go_wp2
        have MF := M10.out.put11 0 rfl (.int .i64 0) (.string ⟨#[]⟩) (.int .i64 0) (.int .i64 0) (.int .i64 0) (.int .i64 0) (.int .i64 0) (.int .i64 0) (.int .i64 0) (.int .i64 0) (.bool false)
        refine bodyPost_ret (Bx.res_ct Try.results21 rfl (man_load (o := zeroM) (MF.blk 0 rfl))) rfl ⟨?_, MF.held⟩
        unfold dec; rw [hno.out]; rfl
      | nil =>
        have HOK : Is (decOk l) (decide (enc ⟨i64 x0, nm, f0, f1, ⟨f2, f3, f4, f5⟩, ⟨f6, f7, f8 == 1⟩⟩ = l)) := ⟨by rw [dec_last HB.out HST9.out, HD.out]⟩
        have hnl : (nm.size : Int) ≤ 1000000000 := by
          have h := congrArg List.length HNM.out
          rw [len_eq] at h
          have h2 := (bytesR_len (numR (dK l).2.1 (dK l).2.2).1 (numR (dK l).2.1 (dK l).2.2).2.1 (numR (dK l).2.1 (dK l).2.2).2.2).1
          have h3 : bytesR (numR (dK l).2.1 (dK l).2.2).1 (numR (dK l).2.1 (dK l).2.2).2.1 (numR (dK l).2.1 (dK l).2.2).2.2 = dS l := rfl
          rw [h3] at h2
          have h4 := numR_len (dK l).2.1 (dK l).2.2
          have h5 := numR_len l false
          have h6 : numR l false = dK l := rfl
          rw [h6] at h5
          omega
        have HEN := fun w => Lib.hid (encode_ref_any (i64 x0) nm f0 f1 f2 f3 f4 f5 f6 f7 (f8 == 1) hnl w)
        obtain rfl : sr = ⟨#[]⟩ := by
          have h := HR.out
          obtain ⟨⟨q⟩⟩ := sr
          simp at h
          subst h; rfl
        clear HST9 HR hra hrb hrl
        obtain ⟨EE, hEE⟩ : ∃ EE, enc ⟨i64 x0, nm, f0, f1, ⟨f2, f3, f4, f5⟩, ⟨f6, f7, f8 == 1⟩⟩ = EE := ⟨_, rfl⟩
        have HEE : Is (enc ⟨i64 x0, nm, f0, f1, ⟨f2, f3, f4, f5⟩, ⟨f6, f7, f8 == 1⟩⟩) EE := ⟨hEE⟩
        rw [hEE] at HOK HEN
        clear hEE
        obtain ⟨⟨b0, b1, b2, b3, b4, b5, b6, b7, b8, b9, b10⟩, ⟨h0, h1, h2, h3, h4, h5, h6, h7, h8, h9, h10⟩, ltb⟩ := M10.out.box11 1 rfl
        go_wp2_with fail
        (with_reducible refine (HEN _).out.mono ?_)
        rintro e w10 ⟨rfl, h10'⟩
        have M11 := Lib.hid (M10.out.keep h10')
        clear M10 h10' HEN b0 b1 b2 b3 b4 b5 b6 b7 b8 b9 b10 h0 h1 h2 h3 h4 h5 h6 h7 h8 h9 h10 ltb
        obtain ⟨⟨a0, a1, a2, a3, a4, a5, a6, a7, a8, a9, a10⟩, ⟨g0, g1, g2, g3, g4, g5, g6, g7, g8, g9, g10⟩, lta⟩ := M11.out.box11 0 rfl
        by_cases he : EE = l
        · have hyes : Is (decOk l) true := ⟨by rw [HOK.out]; exact decide_eq_true he⟩
          have hq : (⟨EE.toArray⟩ : ByteArray) = s := by rw [he, ← HS.out]
          have HE2 : Is EE l := ⟨he⟩
          clear HOK he
          rw [hq]
          clear hq
          obtain ⟨⟨b0, b1, b2, b3, b4, b5, b6, b7, b8, b9, b10⟩, ⟨h0, h1, h2, h3, h4, h5, h6, h7, h8, h9, h10⟩, ltb⟩ := M11.out.box11 1 rfl
          go_wp2
          have MF := M11.out.put11 0 rfl (.int .i64 (i64 x0)) (.string nm) (.int .i64 f0) (.int .i64 f1) (.int .i64 f2) (.int .i64 f3) (.int .i64 f4) (.int .i64 f5) (.int .i64 f6) (.int .i64 f7) (.bool (f8 == 1))
          refine bodyPost_ret (Bx.res_ct Try.results21 rfl (man_load (o := ⟨i64 x0, nm, f0, f1, ⟨f2, f3, f4, f5⟩, ⟨f6, f7, f8 == 1⟩⟩) (MF.blk 0 rfl))) rfl ⟨?_, MF.held⟩
          have hd : dec l = ⟨i64 x0, nm, f0, f1, ⟨f2, f3, f4, f5⟩, ⟨f6, f7, f8 == 1⟩⟩ := by unfold dec; rw [if_pos hyes.out, HD.out]
          rw [hd, hyes.out]; rfl
        · have hno : Is (decOk l) false := ⟨by rw [HOK.out]; exact decide_eq_false he⟩
          have hq1 : (EE == s.toList) = false := by rw [ByteArray.toList_eq, HS.out]; simp; exact he
          have hq2 : (!EE == s.toList) = true := by rw [hq1]; rfl
          clear HOK he
          go_wp2
          have MF := M11.out.put11 0 rfl (.int .i64 0) (.string ⟨#[]⟩) (.int .i64 0) (.int .i64 0) (.int .i64 0) (.int .i64 0) (.int .i64 0) (.int .i64 0) (.int .i64 0) (.int .i64 0) (.bool false)
          refine bodyPost_ret (Bx.res_ct Try.results21 rfl (man_load (o := zeroM) (MF.blk 0 rfl))) rfl ⟨?_, MF.held⟩
          unfold dec; rw [hno.out]; rfl
end Jn
end Go.Proofs.Ytmmnanmegdflgaa
