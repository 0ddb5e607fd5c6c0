/-
  Contracts: CreateNode of the reference (chapter 41).
-/
import Derived.Test.YtncgihbnfmpdbaaSnRe
set_option linter.unusedVariables false
set_option linter.unusedSimpArgs false
set_option maxRecDepth 100000
namespace Go.Proofs.Ytncgihbnfmpdbaa
open Go.RowKit Go.BigFrame
namespace Sn
/-- Nodes of the call's own over a base that lay there before. -/
theorem mixTr {W w : World} {Ab : Option Addr} {nb : Nat} {B : List ByteArray} {N : List Nd} {An : Option Addr} {nn cn : Nat} {R : List Nr} (hb : Sl 1 stC W Ab nb B) (hn : Ab = none → nb = 0) (h : TrM W w none 0 0 An nn cn ⟨[], N⟩ R) : TrR w Ab nb An nn ⟨B, N⟩ :=
  ⟨hb.held h.held, hn, h.tr.ns⟩
/-- What CreateNode hands back. -/
def CrR (T : Tr) (par : Int) (nm : ByteArray) (w : World) (e : Ending) (w' : World) : Prop :=
  ∃ Ab nb cb An nn cn, e = .returned (.tuple #[.agg #[.slice Ab nb cb, .slice An nn cn], .int .i64 (createN T par nm), .int .i64 (createE T par nm)]) ∧ TrR w' Ab nb An nn (create T par nm) ∧ Held w w'
theorem CrR.no {T : Tr} {par k : Int} {nm : ByteArray} {w w' : World} {Ab : Option Addr} {nb cb : Nat} {An : Option Addr} {nn cn : Nat} (h : createE T par nm = k) (hk : k ≠ 0) (hT : TrR w Ab nb An nn T) (hw : Held w w') :
    CrR T par nm w (.returned (.tuple #[.agg #[.slice Ab nb cb, .slice An nn cn], .int .i64 0, .int .i64 k])) w' := by
  refine ⟨Ab, nb, cb, An, nn, cn, ?_, ?_, hw⟩
  · unfold createN; rw [h, if_neg hk]
  · unfold create; rw [h, if_neg hk]; exact hT.held hw
theorem CrR.yes {T : Tr} {par : Int} {nm : ByteArray} {w w' : World} {Ab : Option Addr} {nb cb n : Nat} {An : Option Addr} {nn cn : Nat} (h : createE T par nm = 0) (hn : T.nodes.length = n) (hT : TrR w' Ab nb An nn ⟨T.base, created T.nodes par nm⟩) (hw : Held w w') :
    CrR T par nm w (.returned (.tuple #[.agg #[.slice Ab nb cb, .slice An nn cn], .int .i64 n, .int .i64 0])) w' := by
  refine ⟨Ab, nb, cb, An, nn, cn, ?_, ?_, hw⟩
  · unfold createN; rw [h, if_pos rfl, hn]
  · unfold create; rw [h, if_pos rfl]; exact hT
set_option maxHeartbeats 4000000 in
theorem rcreate_any (Ab : Option Addr) (nb cb : Nat) (An : Option Addr) (nn cn : Nat) (T : Tr) (par : Int) (nm : ByteArray) (w : World) (h : TrR w Ab nb An nn T) (hv : Ok T) (hnm : ¬ nm.size = 0) (hnm2 : nm.size ≤ 12) :
    Calls Try.prog 29 #[.agg #[.slice Ab nb cb, .slice An nn cn], .int .i64 par, .string nm] w (CrR T par nm w) := by
  have HTR := Lib.hid h
  have HVA := Lib.hid (fun w' (q : Held w w') => rvalid_any Ab nb cb An nn cn T w' (h.held q) hv)
  have HEX := Lib.hid (fun w' (q : Held w w') => rexists_any Ab nb cb An nn cn T par w' (h.held q))
  have HCL := Lib.hid (fun w' (q : Held w w') => fresh_any Ab nb cb An nn cn T w' (h.held q) hv)
  have hn12 := hv.nods
  rw [h.nn] at hn12
  have HFI := Lib.hid (fun w' (q : Held w w') => rfind_any Ab nb cb An nn cn T nm w' (h.held q) (by omega) hnm)
  have M0 := Lib.hid (((Mem.start w).alloc #[.slice Ab nb cb, .slice An nn cn] 27).alloc' (b := w.heap.size + 1) (by simp) #[.slice none 0 0, .slice none 0 0] 27)
  have hnn := h.nn
  have HNN := Lib.hid hnn
  have hz := nm_empty hnm
  have hns : ¬ (12 : Int) < (nm.size : Int) := by omega
  obtain ⟨hb, hhb⟩ : ∃ q, hasB T par = q := ⟨_, rfl⟩
  cases hb
  · have HP := Lib.hid (createE_form (nm := nm) hhb)
    obtain ⟨hn1, hxf⟩ : par ≠ -1 ∧ ex T.nodes par = false := by
      unfold hasB at hhb; rw [Bool.or_eq_false_iff, decide_eq_false_iff_not] at hhb; exact hhb
    have hb1 : (par != -1) = true := by simp [hn1]
    rw [hxf] at HEX
    clear h hv hhb hxf hn1
    go_enter Try.func29, Try.ntmps29
    go_wp2_with (first | (go_at_call 34; refine (HVA.out _ M0.out.held).mono ?_; rintro e w2 ⟨rfl, h2⟩; have M2 := Lib.hid (M0.out.keep h2); obtain ⟨⟨a0, a1⟩, ⟨af0, af1⟩, alt⟩ := M2.out.box2 0 rfl) | (go_at_call 45; refine (HEX.out _ M2.out.held).mono ?_; rintro e w3 ⟨rfl, h3⟩; have M3 := Lib.hid (M2.out.keep h3); obtain ⟨⟨b0, b1⟩, ⟨bf0, bf1⟩, blt⟩ := M3.out.box2 0 rfl; obtain ⟨⟨e0, e1⟩, ⟨ef0, ef1⟩, elt⟩ := M3.out.box2 1 rfl))
    have M9 := Lib.hid ((M3.out.put 1 rfl 0 (.slice Ab nb cb)).put 1 rfl 1 (.slice An nn cn))
    refine bodyPost_ret (Bx.res_ctt Try.results29 rfl (TB.load (M9.out.blk 1 rfl) rfl rfl)) rfl ?_
    exact CrR.no HP.out (by decide) HTR.out M9.out.held
  · have HCE := Lib.hid (createE_has (nm := nm) hhb)
    by_cases hpm : par = -1
    · subst hpm
      obtain ⟨fo, hfo⟩ : ∃ q, find T.nodes nm = q := ⟨_, rfl⟩
      cases hc : fo with
      | some i =>
        subst hc
        have HFR : Hid (findR T.nodes nm = ((i : Int), true)) := show _ = _ by unfold findR; rw [hfo]
        have HP : Hid (createE T (-1) nm = 4101) := show _ = _ by rw [HCE.out, hfo]; rfl
        clear hfo h hv hhb
        go_enter Try.func29, Try.ntmps29
        go_wp2_with (first | (go_at_call 34; refine (HVA.out _ M0.out.held).mono ?_; rintro e w2 ⟨rfl, h2⟩; have M2 := Lib.hid (M0.out.keep h2); obtain ⟨⟨a0, a1⟩, ⟨af0, af1⟩, alt⟩ := M2.out.box2 0 rfl) | (go_at_call 28; refine (HFI.out _ M2.out.held).mono ?_; rintro e w4 ⟨rfl, h4⟩; rw [HFR.out]; have M4 := Lib.hid (M2.out.keep h4); obtain ⟨⟨c0, c1⟩, ⟨cf0, cf1⟩, clt⟩ := M4.out.box2 0 rfl; obtain ⟨⟨d0, d1⟩, ⟨df0, df1⟩, dlt⟩ := M4.out.box2 1 rfl))
        have M9 := Lib.hid ((M4.out.put 1 rfl 0 (.slice Ab nb cb)).put 1 rfl 1 (.slice An nn cn))
        refine bodyPost_ret (Bx.res_ctt Try.results29 rfl (TB.load (M9.out.blk 1 rfl) rfl rfl)) rfl ?_
        exact CrR.no HP.out (by decide) HTR.out M9.out.held
      | none =>
        subst hc
        have HFR : Hid (findR T.nodes nm = (0, false)) := show _ = _ by unfold findR; rw [hfo]
        by_cases hfull : (12 : Int) ≤ (nn : Int)
        · have HP : Hid (createE T (-1) nm = 4102) := show _ = _ by rw [HCE.out, hfo, hnn, if_neg (by simp), if_pos (by omega)]
          clear hfo h hv hhb
          go_enter Try.func29, Try.ntmps29
          go_wp2_with (first | (go_at_call 34; refine (HVA.out _ M0.out.held).mono ?_; rintro e w2 ⟨rfl, h2⟩; have M2 := Lib.hid (M0.out.keep h2); obtain ⟨⟨a0, a1⟩, ⟨af0, af1⟩, alt⟩ := M2.out.box2 0 rfl) | (go_at_call 28; refine (HFI.out _ M2.out.held).mono ?_; rintro e w4 ⟨rfl, h4⟩; rw [HFR.out]; have M4 := Lib.hid (M2.out.keep h4); obtain ⟨⟨c0, c1⟩, ⟨cf0, cf1⟩, clt⟩ := M4.out.box2 0 rfl; obtain ⟨⟨d0, d1⟩, ⟨df0, df1⟩, dlt⟩ := M4.out.box2 1 rfl))
          have M9 := Lib.hid ((M4.out.put 1 rfl 0 (.slice Ab nb cb)).put 1 rfl 1 (.slice An nn cn))
          refine bodyPost_ret (Bx.res_ctt Try.results29 rfl (TB.load (M9.out.blk 1 rfl) rfl rfl)) rfl ?_
          exact CrR.no HP.out (by decide) HTR.out M9.out.held
        · have HP : Hid (createE T (-1) nm = 0) := show _ = _ by rw [HCE.out, hfo, hnn, if_neg (by simp), if_neg (by omega)]
          clear hfo h hv hhb
          go_enter Try.func29, Try.ntmps29
          go_wp2_with (first | (go_at_call 34; refine (HVA.out _ M0.out.held).mono ?_; rintro e w2 ⟨rfl, h2⟩; have M2 := Lib.hid (M0.out.keep h2); obtain ⟨⟨a0, a1⟩, ⟨af0, af1⟩, alt⟩ := M2.out.box2 0 rfl) | (go_at_call 28; refine (HFI.out _ M2.out.held).mono ?_; rintro e w4 ⟨rfl, h4⟩; rw [HFR.out]; have M4 := Lib.hid (M2.out.keep h4); obtain ⟨⟨c0, c1⟩, ⟨cf0, cf1⟩, clt⟩ := M4.out.box2 0 rfl; obtain ⟨⟨d0, d1⟩, ⟨df0, df1⟩, dlt⟩ := M4.out.box2 1 rfl) | (go_at_call 46; refine (HCL.out _ M4.out.held).mono ?_; rintro e w5 ⟨An', cn', R, rfl, hT1⟩; have HE := Lib.hid hT1.eq; have M5 := Lib.hid ((TrM.join M4.out hT1).allocF rfl #[.slice Ab nb cb, .slice An' nn cn'] 27); have HRL : Hid (R.length = nn) := (show _ = _ by { rw [hT1.eq.1]; exact HNN.out }); clear hT1; obtain ⟨⟨f0, f1⟩, ⟨ff0, ff1⟩, flt⟩ := M5.out.box2 0 rfl) | (at_builtin; refine Mem.wp_app (M5.out.skip _) 4 rfl rfl _ _ _ rfl _ 56 Try.underlying25 info_nd rfl (by decide) nrC_len nrC_one ⟨nm, -1, true, none, 0, 0⟩ ⟨w5.heap.size + 1, 0, none⟩ 1 rfl rfl (cells_new _ (by simp) _ _) nn HRL.out (by omega) (by decide) ?_; intro g7 cp7 w7 M7; have M8 := Lib.hid M7; clear M7; obtain ⟨⟨x0, x1⟩, ⟨xf0, xf1⟩, xlt⟩ := M8.out.box2 0 rfl; obtain ⟨⟨y0, y1⟩, ⟨yf0, yf1⟩, ylt⟩ := M8.out.box2 2 rfl; have hne : ¬ w5.heap.size = w.heap.size + 1 := fun e => M8.out.ne 0 2 rfl rfl (by decide) e))
          have M9 := Lib.hid (((M8.out.put 0 rfl 1 (.slice (some ⟨g7, 0, none⟩) (nn + 1) cp7)).put 2 rfl 0 (.slice Ab nb cb)).put 2 rfl 1 (.slice (some ⟨g7, 0, none⟩) (nn + 1) cp7))
          go_region
          all_goals
            go_wp2
            refine bodyPost_ret (Bx.res_ctt Try.results29 rfl (TB.load (M9.out.blk 2 rfl) rfl rfl)) rfl ?_
            refine CrR.yes HP.out HNN.out (mixTr (R := R ++ [⟨nm, -1, true, none, 0, 0⟩]) (cn := cp7) HTR.out.bs HTR.out.bnil ⟨?_, ?_⟩) M9.out.held.drew
            · have hM := M9.out.rest.rest.rest.nilRow (e := 38) (s := 2) (f := dlC)
              simp only [created_neg]
              rw [dRows_snoc _ HE.out.1]
              exact hM.drew
            · simp only [created_neg]
              exact HE.out.snoc ⟨rfl, rfl, rfl, rfl⟩
    · have hpr := hasB_range hhb
      have hxt : ex T.nodes par = true := by unfold hasB at hhb; rw [decide_eq_false hpm] at hhb; exact hhb
      have hb1 : (par != -1) = true := by simp [hpm]
      rw [hxt] at HEX
      obtain ⟨p, rfl⟩ := Int.eq_ofNat_of_zero_le (by omega : 0 ≤ par)
      obtain ⟨x, hx⟩ : ∃ x, T.nodes[p]? = some x := ⟨_, List.getElem?_eq_getElem (by omega)⟩
      have HX := Lib.hid hx
      have hpn : (p : Int) < (nn : Int) := by omega
      clear hpm hxt hx hpr
      obtain ⟨fo, hfo⟩ : ∃ q, find T.nodes nm = q := ⟨_, rfl⟩
      cases hc : fo with
      | some i =>
        subst hc
        have HFR : Hid (findR T.nodes nm = ((i : Int), true)) := show _ = _ by unfold findR; rw [hfo]
        have HP : Hid (createE T (p : Int) nm = 4101) := show _ = _ by rw [HCE.out, hfo]; rfl
        clear hfo h hv hhb
        go_enter Try.func29, Try.ntmps29
        go_wp2_with (first | (go_at_call 34; refine (HVA.out _ M0.out.held).mono ?_; rintro e w2 ⟨rfl, h2⟩; have M2 := Lib.hid (M0.out.keep h2); obtain ⟨⟨a0, a1⟩, ⟨af0, af1⟩, alt⟩ := M2.out.box2 0 rfl) | (go_at_call 45; refine (HEX.out _ M2.out.held).mono ?_; rintro e w3 ⟨rfl, h3⟩; have M3 := Lib.hid (M2.out.keep h3); obtain ⟨⟨b0, b1⟩, ⟨bf0, bf1⟩, blt⟩ := M3.out.box2 0 rfl) | (go_at_call 28; refine (HFI.out _ M3.out.held).mono ?_; rintro e w4 ⟨rfl, h4⟩; rw [HFR.out]; have M4 := Lib.hid (M3.out.keep h4); obtain ⟨⟨c0, c1⟩, ⟨cf0, cf1⟩, clt⟩ := M4.out.box2 0 rfl; obtain ⟨⟨d0, d1⟩, ⟨df0, df1⟩, dlt⟩ := M4.out.box2 1 rfl))
        have M9 := Lib.hid ((M4.out.put 1 rfl 0 (.slice Ab nb cb)).put 1 rfl 1 (.slice An nn cn))
        refine bodyPost_ret (Bx.res_ctt Try.results29 rfl (TB.load (M9.out.blk 1 rfl) rfl rfl)) rfl ?_
        exact CrR.no HP.out (by decide) HTR.out M9.out.held
      | none =>
        subst hc
        have HFR : Hid (findR T.nodes nm = (0, false)) := show _ = _ by unfold findR; rw [hfo]
        by_cases hfull : (12 : Int) ≤ (nn : Int)
        · have HP : Hid (createE T (p : Int) nm = 4102) := show _ = _ by rw [HCE.out, hfo, hnn, if_neg (by simp), if_pos (by omega)]
          clear hfo h hv hhb
          go_enter Try.func29, Try.ntmps29
          go_wp2_with (first | (go_at_call 34; refine (HVA.out _ M0.out.held).mono ?_; rintro e w2 ⟨rfl, h2⟩; have M2 := Lib.hid (M0.out.keep h2); obtain ⟨⟨a0, a1⟩, ⟨af0, af1⟩, alt⟩ := M2.out.box2 0 rfl) | (go_at_call 45; refine (HEX.out _ M2.out.held).mono ?_; rintro e w3 ⟨rfl, h3⟩; have M3 := Lib.hid (M2.out.keep h3); obtain ⟨⟨b0, b1⟩, ⟨bf0, bf1⟩, blt⟩ := M3.out.box2 0 rfl) | (go_at_call 28; refine (HFI.out _ M3.out.held).mono ?_; rintro e w4 ⟨rfl, h4⟩; rw [HFR.out]; have M4 := Lib.hid (M3.out.keep h4); obtain ⟨⟨c0, c1⟩, ⟨cf0, cf1⟩, clt⟩ := M4.out.box2 0 rfl; obtain ⟨⟨d0, d1⟩, ⟨df0, df1⟩, dlt⟩ := M4.out.box2 1 rfl))
          have M9 := Lib.hid ((M4.out.put 1 rfl 0 (.slice Ab nb cb)).put 1 rfl 1 (.slice An nn cn))
          refine bodyPost_ret (Bx.res_ctt Try.results29 rfl (TB.load (M9.out.blk 1 rfl) rfl rfl)) rfl ?_
          exact CrR.no HP.out (by decide) HTR.out M9.out.held
        · have HP : Hid (createE T (p : Int) nm = 0) := show _ = _ by rw [HCE.out, hfo, hnn, if_neg (by simp), if_neg (by omega)]
          clear hfo h hv hhb
          go_enter Try.func29, Try.ntmps29
          go_wp2_with (first | (go_at_call 34; refine (HVA.out _ M0.out.held).mono ?_; rintro e w2 ⟨rfl, h2⟩; have M2 := Lib.hid (M0.out.keep h2); obtain ⟨⟨a0, a1⟩, ⟨af0, af1⟩, alt⟩ := M2.out.box2 0 rfl) | (go_at_call 45; refine (HEX.out _ M2.out.held).mono ?_; rintro e w3 ⟨rfl, h3⟩; have M3 := Lib.hid (M2.out.keep h3); obtain ⟨⟨b0, b1⟩, ⟨bf0, bf1⟩, blt⟩ := M3.out.box2 0 rfl) | (go_at_call 28; refine (HFI.out _ M3.out.held).mono ?_; rintro e w4 ⟨rfl, h4⟩; rw [HFR.out]; have M4 := Lib.hid (M3.out.keep h4); obtain ⟨⟨c0, c1⟩, ⟨cf0, cf1⟩, clt⟩ := M4.out.box2 0 rfl; obtain ⟨⟨d0, d1⟩, ⟨df0, df1⟩, dlt⟩ := M4.out.box2 1 rfl) | (go_at_call 46; refine (HCL.out _ M4.out.held).mono ?_; rintro e w5 ⟨An', cn', R, rfl, hT1⟩; have HE := Lib.hid hT1.eq; have M5 := Lib.hid ((TrM.join M4.out hT1).allocF rfl #[.slice Ab nb cb, .slice An' nn cn'] 27); have HRL : Hid (R.length = nn) := (show _ = _ by { rw [hT1.eq.1]; exact HNN.out }); clear hT1; obtain ⟨⟨f0, f1⟩, ⟨ff0, ff1⟩, flt⟩ := M5.out.box2 0 rfl; obtain ⟨g, y, rfl, hge, hlt, hy, hcell⟩ := M5.out.slot 4 rfl nrC_len (by decide) (k := p) (by rw [HRL.out]; omega); have z2 := (hcell 2 (by decide)).2 (.bool y.op) rfl; have zf := (hcell 2 (by decide)).1; have M6 := Lib.hid (M5.out.putAt 4 rfl nrC_len hy (j := 2) (by decide) (.bool false) { y with op := false } rfl); have hq := HE.out.2 p y x hy HX.out; have HE2 : Hid (NrsE (R.set p { y with op := false }) (upd T.nodes p (fun x => { x with op := false }))) := HE.out.set HX.out ⟨hq.nm, hq.par, rfl, hq.n⟩; have HRL2 : Hid ((R.set p { y with op := false }).length = nn) := show _ = _ by { rw [List.length_set]; exact HRL.out }; have hg1 : ¬ g = w5.heap.size := fun e => M5.out.neRow 0 4 rfl rfl (by decide) (by rw [e]; rfl); have hg2 : ¬ w5.heap.size = g := fun e => hg1 e.symm; clear hcell) | (at_builtin; refine Mem.wp_app (M6.out.skip _) 4 rfl rfl _ _ _ rfl _ 56 Try.underlying25 info_nd rfl (by decide) nrC_len nrC_one ⟨nm, (p : Int), true, none, 0, 0⟩ ⟨w5.heap.size + 1, 0, none⟩ 1 rfl rfl (cells_new _ (by simp) _ _) nn HRL2.out (by omega) (by decide) ?_; intro g7 cp7 w7 M7; have M8 := Lib.hid M7; clear M7; obtain ⟨⟨x0, x1⟩, ⟨xf0, xf1⟩, xlt⟩ := M8.out.box2 0 rfl; obtain ⟨⟨y0, y1⟩, ⟨yf0, yf1⟩, ylt⟩ := M8.out.box2 2 rfl; have hne : ¬ w5.heap.size = w.heap.size + 1 := fun e => M8.out.ne 0 2 rfl rfl (by decide) e))
          have M9 := Lib.hid (((M8.out.put 0 rfl 1 (.slice (some ⟨g7, 0, none⟩) (nn + 1) cp7)).put 2 rfl 0 (.slice Ab nb cb)).put 2 rfl 1 (.slice (some ⟨g7, 0, none⟩) (nn + 1) cp7))
          go_region
          all_goals
            go_wp2
            refine bodyPost_ret (Bx.res_ctt Try.results29 rfl (TB.load (M9.out.blk 2 rfl) rfl rfl)) rfl ?_
            refine CrR.yes HP.out HNN.out (mixTr (R := R.set p { y with op := false } ++ [⟨nm, p, true, none, 0, 0⟩]) (cn := cp7) HTR.out.bs HTR.out.bnil ⟨?_, ?_⟩) M9.out.held.drew
            · have hM := M9.out.rest.rest.rest.nilRow (e := 38) (s := 2) (f := dlC)
              simp only [created_pos]
              rw [dRows_snoc _ HE2.out.1, dRows_set (r' := { y with op := false }) (f := fun x => { x with op := false }) hy HX.out ⟨rfl, rfl, rfl⟩ rfl]
              exact hM.drew
            · simp only [created_pos]
              exact HE2.out.snoc ⟨rfl, rfl, rfl, rfl⟩
end Sn
end Go.Proofs.Ytncgihbnfmpdbaa
