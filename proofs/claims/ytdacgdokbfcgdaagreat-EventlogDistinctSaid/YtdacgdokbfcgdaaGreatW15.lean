/-
  The recorder: one step of a recorded execution (vmfleetmake.Step), for machines with 256 words or none.
  The recorder: a recorded execution (vmfleetmake.Play).
  The shelf's contracts of strings.Builder at this program's numbers (printed by wip/tools/mkbld.py).
  Contracts: what Encode of eventlog calls, and Encode.
  Contracts: Ordered of bare and of the reference.
  Contracts: Encode of eventlog.
-/
import Derived.Test.YtdacgdokbfcgdaaGreatW14
import Derived.Shelf.Strings.Builder1
import Derived.Shelf.Strings.BuilderK
import Derived.Test.YtdacgdokbfcgdaaGreatW1
import Derived.Test.YtdacgdokbfcgdaaGreatProg
import Derived.Test.YtdacgdokbfcgdaaGreatW13
import Derived.Lib.QuietBelow
import Derived.BigQuiet
import Derived.Outline
import Derived.Deep.RegionHeld3
import Derived.RegionTactic
import Derived.BigRegion
import Derived.Deep.DeepCutAuto
import Derived.IntWalk
set_option linter.unusedVariables false
set_option linter.unusedSimpArgs false
set_option maxRecDepth 100000
namespace Go.Proofs.YtdacgdokbfcgdaaGreat
open Go.RowKit Go.BigFrame Go.Sort Go.Lib
namespace Mem
theorem fourF {W w w' : World} {H : List Ck} (h : Mem W w H) {α β γ δ : Type} {e1 e2 e3 e4 : TypeId} {s1 s2 s3 s4 : Nat} {f1 : α → List Value} {f2 : β → List Value} {f3 : γ → List Value} {f4 : δ → List Value} {v1 v2 v3 v4 : Value} {L1 : List α} {L2 : List β} {L3 : List γ} {L4 : List δ}
    (k : Mem w w' [.row e1 s1 f1 w.heap.size v1 L1, .row e2 s2 f2 w.heap.size v2 L2, .row e3 s3 f3 w.heap.size v3 L3, .row e4 s4 f4 w.heap.size v4 L4]) :
    Mem W w' (.row e1 s1 f1 W.heap.size v1 L1 :: .row e2 s2 f2 W.heap.size v2 L2 :: .row e3 s3 f3 W.heap.size v3 L3 :: .row e4 s4 f4 W.heap.size v4 L4 :: H) := by
  have hb := h.le
  have h1 := h.joinF k
  have h2 := h1.rebaseR 0 rfl hb
  have h3 := h2.rebaseR 1 rfl hb
  have h4 := h3.rebaseR 2 rfl hb
  have h5 := h4.rebaseR 3 rfl hb
  exact h5
end Mem
namespace Ma
theorem wd_wrap (z : Int) : Wd (IntKind.u32.wrap z) := by
  have e : IntKind.u32.wrap z = z % 4294967296 := by simp [IntKind.wrap, IntKind.signed, IntKind.bits]
  rw [e]
  exact ⟨by omega, by omega⟩
open Enc (Ent entC EntOK okX ord ordTo adj entC_len entC_one)
structure RcS (n : Nat) (C M : List Int) : Prop where
  sz : n = 256 ∨ n = 0
  cpu : CpuOK C
  mem : n = 256 → MemOK M
structure RcJ (d : Dv) (LL : List Ent) (QL : List Evt) (d' : Dv) (LL' : List Ent) (QL' : List Evt) : Prop where
  dok : DvOK d'
  cnt : d.cnt ≤ d'.cnt ∧ d'.cnt ≤ d.cnt + 11
  log : ∀ c0 : Nat, (c0 : Int) ≤ d.cnt → LogI LL c0 d.cnt.toNat → LogI LL' c0 d'.cnt.toNat
  pot : pot LL' d'.ta QL' ≤ pot LL d.ta QL + 11
theorem RcJ.of {d : Dv} {LL : List Ent} {QL : List Evt} {s : Nat} {d' : Dv} {LL' : List Ent} {QL' : List Evt} (hs : s ≤ 11) (hq : QL'.length ≤ QL.length) (h : RcI d LL (QL.length - QL'.length + s) s d' LL') : RcJ d LL QL d' LL' QL' := by
  have hc := h.cnt
  have hp := h.pot
  refine ⟨h.dok, ⟨by omega, by omega⟩, h.log, ?_⟩
  unfold Ma.pot
  omega
theorem RcJ.arr {d : Dv} {LL : List Ent} {QL QL' : List Evt} {x : Evt} (hd : DvOK d) (h : QL' = QL ∨ QL' = QL ++ [x]) : RcJ d LL QL d LL QL' := by
  refine ⟨hd, ⟨Int.le_refl _, by omega⟩, fun c0 _ h => h, ?_⟩
  unfold Ma.pot
  rcases h with rfl | rfl
  · omega
  · rw [List.length_append, List.length_singleton]; omega
set_option maxHeartbeats 8000000 in
theorem adv0_any (C : List Int) (A : Option Addr) (cap : Nat) (d : Dv) (clk : Int) (A1 A2 : Option Addr) (n1 c1 n2 c2 : Nat) (M : List Int) (LL : List Ent) (QL : List Evt) (k : Int) (ck : Int) (hC : CpuOK C) (w : World)
    (h : Sl 1 uC w A 0 M) (h1 : Sl 4 entC w A1 n1 LL) (h2 : Sl 3 evtC w A2 n2 QL) (hn1 : n1 ≤ 1000) (hn2 : n2 ≤ 1000) :
    Calls Tryz.prog 69 #[.agg (mcA C (.slice A 0 cap) d [.int .u32 clk, .slice A1 n1 c1, .slice A2 n2 c2]), .int .i64 k, .int .u32 ck] w (fun e w' => ∃ (g : Nat) (B1 B2 : Option Addr) (k1 k2 : Nat), e = .returned (.tuple #[recV C g 0 d clk (.slice B1 LL.length k1) (.slice B2 QL.length k2), .slice none 0 0]) ∧ Mem w w' [memN w.heap.size g 0 M, logR w.heap.size (.slice B1 LL.length k1) LL, queR w.heap.size (.slice B2 QL.length k2) QL]) := by
  have HCL := Lib.hid hC.len
  have HO := Lib.hid fun (w' : World) (h' : Held w w') => own19_any C A 0 cap d clk A1 A2 n1 c1 n2 c2 M LL QL hC.len (by decide) w' (h.held h') (h1.held h') (h2.held h') (by omega) (by omega)
  unfold OwrTo recV memS at HO
  have HMA := Lib.hid fun (g : Nat) w => may_0 C (some ⟨g, 0, none⟩) 0 d hC w
  have M0 := Lib.hid (((Mem.start w).allocF (b := w.heap.size) rfl (mcA C (.slice A 0 cap) d [.int .u32 clk, .slice A1 n1 c1, .slice A2 n2 c2]) 61).allocF (b := w.heap.size + 1) (by simp) z52 61)
  clear hC h h1 h2 hn1 hn2
  go_enter Tryz.func69, Tryz.ntmps69
  go_wp2_with (show wpList _ _ _ ((⟨_, Op.load 61 _, _, _, _, _⟩ : Oper) :: _) _ _; refine Mem.go_loadAll 61 rfl rfl rfl 1 M0.out rfl uRec (by rw [mc_size HCL.out]; exact sRec) ?_)
  refine (HO.out _ M0.out.held).mono ?_
  rintro e w3 ⟨g, B1, B2, k1, k2, rfl, h3⟩
  have M3 := Lib.hid (M0.out.threeF h3)
  clear h3 HO
  have HX1 := Lib.hid (HX1_of clk (.slice B1 LL.length k1) (.slice B2 QL.length k2) rfl rfl)
  go_upto_region 2 with (show wpList _ _ _ ((⟨_, Op.store 61 _ _, _, _, _, _⟩ : Oper) :: _) _ _; refine Mem.go_storeAll 61 rfl rfl rfl rfl 4 M3.out rfl (by rw [mc_size HCL.out]; exact sRec) (by first | (rw [mc_size HCL.out]; done) | (rw [mc_size HCL.out]; rfl) | (rw [mc_size HCL.out, mc_size HCL.out]; done) | (rw [mc_size HCL.out, mc_size HCL.out]; rfl)) (mc_one _ rfl _ HX1.out) ?_; intro w4 MM'; (try simp only [List.set_cons_zero, List.set_cons_succ] at MM'); have M4 := Lib.hid MM'; clear MM')
  have HSZ : Is (mcA C (.slice (some ⟨g, 0, none⟩) 0 0) d (recX clk (.slice B1 LL.length k1) (.slice B2 QL.length k2))).size (49 + (recX clk (.slice B1 LL.length k1) (.slice B2 QL.length k2)).length) := ⟨mc_size HCL.out⟩
  go_wp2_with (show wpList _ _ _ ((⟨_, Op.load 57 _, _, _, _, _⟩ : Oper) :: _) _ _; refine Mem.go_loadPart 57 rfl rfl 0 49 rfl 4 M4.out rfl uMac sMac (by rw [HSZ.out]; exact Nat.le_trans (by decide : 0 + 49 ≤ 49) (Nat.le_add_right _ _)) (take_all HCL.out) ?_)
  refine (HMA.out g _).mono ?_
  rintro e w5 ⟨rfl, h5⟩
  have M5 := Lib.hid (M4.out.keep h5)
  clear h5
  go_wp2_with (first | (show wpList _ _ _ ((⟨_, Op.load 61 _, _, _, _, _⟩ : Oper) :: _) _ _; refine Mem.go_loadAll 61 rfl rfl rfl 4 M5.out rfl uRec (by rw [mc_size HCL.out]; exact sRec) ?_) | (show wpList _ _ _ ((⟨_, Op.store 61 _ _, _, _, _, _⟩ : Oper) :: _) _ _; refine Mem.go_storeAll 61 rfl rfl rfl rfl 3 M5.out rfl (by rw [mc_size HCL.out]; exact sRec) (by first | (rw [mc_size HCL.out]; done) | (rw [mc_size HCL.out]; rfl) | (rw [mc_size HCL.out, mc_size HCL.out]; done) | (rw [mc_size HCL.out, mc_size HCL.out]; rfl)) (mc_one _ rfl _ HX1.out) ?_; intro w6 MM'; (try simp only [List.set_cons_zero, List.set_cons_succ] at MM'); have M6 := Lib.hid MM'; clear MM'))
  refine bodyPost_ret (Bx.res_ct Tryz.results69 rfl (load_rec (mc_size HCL.out) (M6.out.blk 3 rfl))) rfl ?_
  exact ⟨g, B1, B2, k1, k2, rfl, M6.out.take 3⟩
def StepTo (n : Nat) (d : Dv) (LL : List Ent) (QL : List Evt) (w : World) (e : Ending) (w' : World) : Prop :=
  ∃ (C' : List Int) (g : Nat) (d' : Dv) (clk' : Int) (lv qv vo : Value) (LL' : List Ent) (QL' : List Evt) (LO : List Ou) (M' : List Int), e = .returned (.tuple #[recV C' g n d' clk' lv qv, vo]) ∧ RcS n C' M' ∧ Wd clk' ∧ LO.length ≤ 11 ∧ (∀ x ∈ QL', EvtV x) ∧ RcJ d LL QL d' LL' QL' ∧ Mem w w' [memN w.heap.size g n M', logR w.heap.size lv LL', queR w.heap.size qv QL', outR w.heap.size vo LO]
theorem adv_all (C : List Int) (A : Option Addr) (n cap : Nat) (d : Dv) (clk : Int) (A1 A2 : Option Addr) (n1 c1 n2 c2 : Nat) (M : List Int) (LL : List Ent) (QL : List Evt) (k : Nat) (ck : Int) (hk : k ≤ 11) (hck : Wd ck) (hclk : Wd clk) (hQ : ∀ x ∈ QL, EvtV x) (hS : RcS n C M) (hd : DvOK d) (hcn : d.cnt ≤ 100000) (w : World)
    (h : Sl 1 uC w A n M) (h1 : Sl 4 entC w A1 n1 LL) (h2 : Sl 3 evtC w A2 n2 QL) (hn1 : n1 ≤ 1000) (hn2 : n2 ≤ 1000) :
    Calls Tryz.prog 69 #[.agg (mcA C (.slice A n cap) d [.int .u32 clk, .slice A1 n1 c1, .slice A2 n2 c2]), .int .i64 (k : Int), .int .u32 ck] w (StepTo n d LL QL w) := by
  rcases hS.sz with rfl | rfl
  · refine (advance19_any C A cap d clk A1 A2 n1 c1 n2 c2 M LL QL k ck hk hck hclk hQ hS.cpu hd hcn (hS.mem rfl) w h h1 h2 hn1 hn2).mono fun e w' hh => ?_
    obtain ⟨C', g, d', clk', lv, qv, vo, LL', QL', LO, M', he, g1, g2, g3, g4, g5, g6, ⟨s, hs, g7⟩, g8⟩ := hh
    exact ⟨C', g, d', clk', lv, qv, vo, LL', QL', LO, M', he, ⟨.inl rfl, g1, fun _ => g2⟩, g3, g4, fun x hx => hQ x (g5 x hx), RcJ.of hs g6 g7, g8⟩
  · refine (adv0_any C A cap d clk A1 A2 n1 c1 n2 c2 M LL QL k ck hS.cpu w h h1 h2 hn1 hn2).mono fun e w' hh => ?_
    obtain ⟨g, B1, B2, k1, k2, he, g8⟩ := hh
    exact ⟨C, g, d, clk, _, _, _, LL, QL, [], M, he, ⟨.inr rfl, hS.cpu, fun h => by cases h⟩, hclk, by decide, hQ, RcJ.arr (x := ⟨2, 0, ⟨#[]⟩⟩) hd (.inl rfl), g8.nilRow⟩

set_option maxHeartbeats 8000000 in
theorem step_any (C : List Int) (A : Option Addr) (n cap : Nat) (d : Dv) (clk : Int) (A1 A2 : Option Addr) (n1 c1 n2 c2 : Nat) (M : List Int) (LL : List Ent) (QL : List Evt) (m : Int) (hclk : Wd clk) (hQ : ∀ x ∈ QL, EvtV x) (hS : RcS n C M) (hd : DvOK d) (hcn : d.cnt ≤ 100000) (w : World)
    (h : Sl 1 uC w A n M) (h1 : Sl 4 entC w A1 n1 LL) (h2 : Sl 3 evtC w A2 n2 QL) (hn1 : n1 ≤ 1000) (hn2 : n2 ≤ 1000) :
    Calls Tryz.prog 41 #[.agg (mcA C (.slice A n cap) d [.int .u32 clk, .slice A1 n1 c1, .slice A2 n2 c2]), .int .i64 m] w (StepTo n d LL QL w) := by
  have HCL := Lib.hid hS.cpu.len
  have hn : n ≤ 1024 := by rcases hS.sz with h | h <;> omega
  have HAR := Lib.hid fun (x : Evt) (hx : EvtV x) (w' : World) (h' : Held w w') => arrive_any C A n cap d clk A1 A2 n1 c1 n2 c2 M LL QL x hx hS.cpu.len hn w' (h.held h') (h1.held h') (h2.held h') (by omega) hn2
  have HAD := Lib.hid fun (k : Nat) (ck : Int) (hk : k ≤ 11) (hck : Wd ck) (w' : World) (h' : Held w w') => adv_all C A n cap d clk A1 A2 n1 c1 n2 c2 M LL QL k ck hk hck hclk hQ hS hd hcn w' (h.held h') (h1.held h') (h2.held h') hn1 hn2
  obtain ⟨v, hv⟩ : ∃ v, Mk.mix m 3 = v := ⟨_, rfl⟩
  have HM := Lib.hid fun w => Mk.mix_any m 3 w
  have hvl := Mk.mix_lt m 3
  rw [hv] at HM hvl
  have HEV := Lib.hid fun w => Evg.event_any m w
  have HB := Lib.hid (And.intro hS (And.intro hclk (And.intro hQ hd)))
  have M0 := Lib.hid (((Mem.start w).allocF (b := w.heap.size) rfl (mcA C (.slice A n cap) d [.int .u32 clk, .slice A1 n1 c1, .slice A2 n2 c2]) 61).allocF (b := w.heap.size + 1) (by simp) z52 61)
  clear h h1 h2 hn1 hn2 hS hd hcn hclk hQ hv hn
  go_enter Tryz.func41, Tryz.ntmps41
  go_wp2_with fail
  refine (HM.out _).mono ?_
  rintro e w2 ⟨rfl, rfl⟩
  go_upto_if 11 with fail

  obtain ⟨b, hb⟩ : ∃ b, ((v : Int) % 3 == 0) = b := ⟨_, rfl⟩
  rw [hb]
  clear hb
  cases b
  · have HRD := Lib.hid fun (w : World) => (show Calls Tryz.prog 15 #[.int .i64 ((v : Int) / 16), .int .i64 12] w fun e w' => ∃ k : Nat, k ≤ 11 ∧ e = .returned (.int .i64 (k : Int)) ∧ w = w' from (Mk.round_any ((v : Int) / 16) 12 (by omega) (by omega) (by omega) (by omega) w).mono fun e w' h => ⟨(Mk.round ((v : Int) / 16) 12).toNat, by have := Mk.round_bd ((v : Int) / 16) 12 (by omega); omega, by rw [h.1, Int.toNat_of_nonneg (Mk.round_bd ((v : Int) / 16) 12 (by omega)).1], h.2⟩)
    go_upto_region 5 with fail
    refine Tl.start 11 (fun w' => w'.heap[w.heap.size]? = some (.cells (mcA C (.slice A n cap) d [.int .u32 clk, .slice A1 n1 c1, .slice A2 n2 c2]) 61 (0, 0))) (by kernel_rfl) (M0.out.drew.blk 1 rfl) (fun hHeld => ?_)
    refine Tl.ty 0 (⟨some 20, .load 61 (.tmp 2), 61, "make.go:176", #[], none⟩ : Oper) (.agg (mcA C (.slice A n cap) d [.int .u32 clk, .slice A1 n1 c1, .slice A2 n2 c2])) rfl (Big.yields_load 61 rfl rfl rfl (fun w' h => h) uRec (by rw [mc_size HCL.out]; exact sRec)) (by assumption) ?_
    try simp only [Act.put, Tl.p2, Tl.p3, Tl.p4]
    refine Tl.tf 1 (⟨some 21, .move (.tmp 6), 3, "make.go:176", #[], none⟩ : Oper) ?v2 rfl ?hy2 (by assumption) ?_
    case hy2 => (intro w; go_simp; all_goals (with_reducible rfl))
    try simp only [Act.put, Tl.p2, Tl.p3, Tl.p4]
    refine Tl.tf 2 (⟨some 22, .binOp .shr 3 (.tmp 21) (.const (.int .u64 4)) 105, 3, "make.go:176", #[⟨1, .data⟩], none⟩ : Oper) ?v3 rfl ?hy3 (by assumption) ?_
    case hy3 => (intro w; go_simp; all_goals (with_reducible rfl))
    try simp only [Act.put, Tl.p2, Tl.p3, Tl.p4]
    refine Tl.tf 4 (⟨some 24, .move (.tmp 6), 3, "make.go:176", #[], none⟩ : Oper) ?v4 rfl ?hy4 (by assumption) ?_
    case hy4 => (intro w; go_simp; all_goals (with_reducible rfl))
    try simp only [Act.put, Tl.p2, Tl.p3, Tl.p4]
    refine Tl.tf 5 (⟨some 25, .binOp .shr 3 (.tmp 24) (.const (.int .u64 12)) 105, 3, "make.go:176", #[⟨4, .data⟩], none⟩ : Oper) ?v5 rfl ?hy5 (by assumption) ?_
    case hy5 => (intro w; go_simp; all_goals (with_reducible rfl))
    try simp only [Act.put, Tl.p2, Tl.p3, Tl.p4]
    refine Tl.tf 6 (⟨some 26, .binOp .and 3 (.tmp 25) (.const (.int .i64 255)) 3, 3, "make.go:176", #[⟨5, .data⟩], none⟩ : Oper) ?v6 rfl ?hy6 (by assumption) ?_
    case hy6 => (intro w; go_simp; all_goals (with_reducible rfl))
    try simp only [Act.put, Tl.p2, Tl.p3, Tl.p4]
    refine Tl.tf 7 (⟨some 27, .convert 3 40 (.tmp 26), 40, "make.go:176", #[⟨6, .data⟩], none⟩ : Oper) ?v7 rfl ?hy7 (by assumption) ?_
    case hy7 => (intro w; go_simp; all_goals (with_reducible rfl))
    try simp only [Act.put, Tl.p2, Tl.p3, Tl.p4]
    refine Tl.step (i := 3) (o := (⟨some 23, .call { callee := .value (.func 15), args := #[.tmp 22, .const (.int .i64 12)], argTypes := #[3, 3] }, 3, "make.go:176", #[⟨2, .data⟩], none⟩ : Oper)) (by kernel_rfl) rfl (fun K hK => ?_)
    go_simp
    refine (HRD.out _).mono ?_
    rintro e w3 ⟨k, hk, rfl, rfl⟩
    dsimp only
    refine hK.out _ _ (M0.out.drew.blk 1 rfl) (fun hHeld => ?_)
    clear hK K
    try simp only [Act.put, Tl.p2, Tl.p3, Tl.p4]
    refine Tl.step (i := 8) (o := (⟨some 28, .call { callee := .value (.func 69), args := #[.tmp 20, .tmp 23, .tmp 27], argTypes := #[61, 3, 40] }, 63, "make.go:176", #[⟨0, .data⟩, ⟨3, .data⟩, ⟨7, .data⟩, ⟨3, .chain⟩], none⟩ : Oper)) (by kernel_rfl) rfl (fun K hK => ?_)
    go_simp
    refine (HAD.out k _ hk (wd_wrap _) _ M0.out.drew.held).mono ?_
    rintro e w4 ⟨C', g, d', clk', lv, qv, vo, LL', QL', LO, M', rfl, hS', hclk', hlo, hq, hJ, h6⟩
    have HCL2 := Lib.hid hS'.cpu.len
    have HR1 := Lib.hid (row_one (h6.row 1 rfl))
    have HR2 := Lib.hid (row_one (h6.row 2 rfl))
    have M2 := Lib.hid (M0.out.drew.fourF h6)
    have HZ := Lib.hid (And.intro hS' (And.intro hclk' (And.intro hlo (And.intro hq hJ))))
    clear h6 hS' hclk' hlo hq hJ
    dsimp only
    refine hK.out _ _ (M2.out.blk 5 rfl) (fun hHeld => ?_)
    clear hK K
    try simp only [Act.put, Tl.p2, Tl.p3, Tl.p4]
    refine Tl.tf 9 (⟨some 29, .extract (.tmp 28) 0, 61, "make.go:176", #[⟨8, .data⟩], none⟩ : Oper) ?v8 rfl ?hy8 (by assumption) ?_
    case hy8 => (intro w; go_simp; all_goals (with_reducible rfl))
    try simp only [Act.put, Tl.p2, Tl.p3, Tl.p4]
    refine Tl.tf 10 (⟨some 30, .extract (.tmp 28) 1, 62, "make.go:176", #[⟨8, .data⟩], none⟩ : Oper) ?v9 rfl ?hy9 (by assumption) ?_
    case hy9 => (intro w; go_simp; all_goals (with_reducible rfl))
    try simp only [Act.put, Tl.p2, Tl.p3, Tl.p4]
    refine Tl.stepN (i := 11) (o := (⟨none, .store 61 (.tmp 4) (.tmp 29), 0, "make.go:176", #[⟨9, .data⟩, ⟨8, .chain⟩, ⟨0, .phase⟩, ⟨1, .phase⟩, ⟨2, .phase⟩, ⟨3, .phase⟩, ⟨4, .phase⟩, ⟨5, .phase⟩, ⟨6, .phase⟩, ⟨7, .phase⟩, ⟨8, .phase⟩, ⟨9, .phase⟩, ⟨10, .phase⟩], none⟩ : Oper)) (by kernel_rfl) (by kernel_rfl) rfl (fun K hK => ?_)
    refine Mem.step_storeAll 61 rfl rfl rfl rfl 4 M2.out rfl (by rw [mc_size HCL2.out]; exact sRec) (by rw [mc_size HCL2.out]; rfl) (mc_one _ rfl _ (HX1_of _ _ _ HR1.out HR2.out)) ?_
    intro w5 MM'
    (try simp only [List.set_cons_zero, List.set_cons_succ] at MM')
    have M3 := Lib.hid MM'
    clear MM'
    refine hK.out _ _ ?_
    clear hK K
    try simp only [Act.put, Tl.p2, Tl.p3, Tl.p4]
    refine Tl.td 12 (⟨some 5, .assign (.tmp 30), 62, "make.go:176", #[⟨10, .data⟩, ⟨11, .chain⟩, ⟨0, .phase⟩, ⟨1, .phase⟩, ⟨2, .phase⟩, ⟨3, .phase⟩, ⟨4, .phase⟩, ⟨5, .phase⟩, ⟨6, .phase⟩, ⟨7, .phase⟩, ⟨8, .phase⟩, ⟨9, .phase⟩, ⟨10, .phase⟩, ⟨11, .phase⟩], none⟩ : Oper) ?v10 rfl ?hy10 ?_
    case hy10 => (intro w; go_simp; all_goals (with_reducible rfl))
    try simp only [Act.put, Tl.p2, Tl.p3, Tl.p4]
    refine Tl.done (by kernel_rfl) ?_ _
    go_wp2_with fail
    refine bodyPost_ret (Bx.res_ct Tryz.results41 rfl (load_rec (mc_size HCL2.out) (M3.out.blk 4 rfl))) rfl ?_
    exact ⟨C', g, d', clk', lv, qv, vo, LL', QL', LO, M', rfl, HZ.out.1, HZ.out.2.1, HZ.out.2.2.1, HZ.out.2.2.2.1, HZ.out.2.2.2.2, M3.out.take 4⟩
  · go_upto_region 3 with fail
    refine Tl.start 7 (fun w' => w'.heap[w.heap.size]? = some (.cells (mcA C (.slice A n cap) d [.int .u32 clk, .slice A1 n1 c1, .slice A2 n2 c2]) 61 (0, 0))) (by kernel_rfl) (M0.out.drew.blk 1 rfl) (fun hHeld => ?_)
    refine Tl.ty 0 (⟨some 13, .load 61 (.tmp 2), 61, "make.go:173", #[], none⟩ : Oper) (.agg (mcA C (.slice A n cap) d [.int .u32 clk, .slice A1 n1 c1, .slice A2 n2 c2])) rfl (Big.yields_load 61 rfl rfl rfl (fun w' h => h) uRec (by rw [mc_size HCL.out]; exact sRec)) (by assumption) ?_
    try simp only [Act.put, Tl.p2, Tl.p3, Tl.p4]
    refine Tl.tf 1 (⟨some 14, .move (.tmp 1), 3, "make.go:173", #[], none⟩ : Oper) ?v12 rfl ?hy12 (by assumption) ?_
    case hy12 => (intro w; go_simp; all_goals (with_reducible rfl))
    try simp only [Act.put, Tl.p2, Tl.p3, Tl.p4]
    refine Tl.step (i := 2) (o := (⟨some 15, .call { callee := .value (.func 68), args := #[.tmp 14], argTypes := #[3] }, 66, "make.go:173", #[⟨1, .data⟩], none⟩ : Oper)) (by kernel_rfl) rfl (fun K hK => ?_)
    go_simp
    go_at_call 68
    refine (HEV.out _).mono ?_
    rintro e w3 ⟨kk, nn, dd, rfl, h1, h2, h3, h4, h5⟩
    have M1 := Lib.hid (M0.out.drew.keep h5)
    have HX := Lib.hid (show EvtV ⟨kk, nn, dd⟩ from ⟨h2, h1, h3, h4⟩)
    clear h1 h2 h3 h4 h5
    dsimp only
    refine hK.out _ _ (M1.out.blk 1 rfl) (fun hHeld => ?_)
    clear hK K
    try simp only [Act.put, Tl.p2, Tl.p3, Tl.p4]
    refine Tl.step (i := 3) (o := (⟨some 16, .call { callee := .value (.func 67), args := #[.tmp 13, .tmp 15], argTypes := #[61, 66] }, 133, "make.go:173", #[⟨0, .data⟩, ⟨2, .data⟩, ⟨2, .chain⟩], none⟩ : Oper)) (by kernel_rfl) rfl (fun K hK => ?_)
    go_simp
    go_at_call 67
    refine (HAR.out ⟨kk, nn, dd⟩ HX.out _ M1.out.held).mono ?_
    rintro e w4 ⟨g, B1, B2, k1, k2, ok, QL', rfl, hq, h6⟩
    have M2 := Lib.hid (M1.out.threeF h6)
    have HQ' := Lib.hid hq
    clear h6 hq
    dsimp only
    refine hK.out _ _ (M2.out.blk 4 rfl) (fun hHeld => ?_)
    clear hK K
    try simp only [Act.put, Tl.p2, Tl.p3, Tl.p4]
    refine Tl.tf 4 (⟨some 12, .move (.tmp 16), 133, "make.go:173", #[⟨3, .data⟩], none⟩ : Oper) ?v13 rfl ?hy13 (by assumption) ?_
    case hy13 => (intro w; go_simp; all_goals (with_reducible rfl))
    try simp only [Act.put, Tl.p2, Tl.p3, Tl.p4]
    refine Tl.tf 5 (⟨some 17, .extract (.tmp 12) 0, 61, "make.go:173", #[⟨4, .data⟩], none⟩ : Oper) ?v14 rfl ?hy14 (by assumption) ?_
    case hy14 => (intro w; go_simp; all_goals (with_reducible rfl))
    try simp only [Act.put, Tl.p2, Tl.p3, Tl.p4]
    refine Tl.tf 6 (⟨some 18, .extract (.tmp 12) 1, 4, "make.go:173", #[⟨4, .data⟩, ⟨7, .gcOnly .lateStores⟩], none⟩ : Oper) ?v15 rfl ?hy15 (by assumption) ?_
    case hy15 => (intro w; go_simp; all_goals (with_reducible rfl))
    try simp only [Act.put, Tl.p2, Tl.p3, Tl.p4]
    refine Tl.stepN (i := 7) (o := (⟨none, .store 61 (.tmp 2) (.tmp 17), 0, "make.go:173", #[⟨5, .data⟩, ⟨3, .chain⟩, ⟨0, .phase⟩, ⟨1, .phase⟩, ⟨2, .phase⟩, ⟨3, .phase⟩, ⟨4, .phase⟩, ⟨5, .phase⟩, ⟨6, .textOnly .lateStores⟩], none⟩ : Oper)) (by kernel_rfl) (by kernel_rfl) rfl (fun K hK => ?_)
    refine Mem.step_storeAll 61 rfl rfl rfl rfl 4 M2.out rfl (by rw [mc_size HCL.out]; exact sRec) (by rw [mc_size HCL.out, mc_size HCL.out]; rfl) (mc_one _ rfl _ (HX1_of _ _ _ rfl rfl)) ?_
    intro w5 MM'
    (try simp only [List.set_cons_zero, List.set_cons_succ] at MM')
    have M3 := Lib.hid MM'
    clear MM'
    refine hK.out _ _ ?_
    clear hK K
    try simp only [Act.put, Tl.p2, Tl.p3, Tl.p4]
    refine Tl.done (by kernel_rfl) ?_ _
    go_wp2_with (first | (show wpList _ _ _ ((⟨_, Op.load 61 _, _, _, _, _⟩ : Oper) :: _) _ _; refine Mem.go_loadAll 61 rfl rfl rfl 4 M3.out rfl uRec (by rw [mc_size HCL.out]; exact sRec) ?_) | (show wpList _ _ _ ((⟨_, Op.store 61 _ _, _, _, _, _⟩ : Oper) :: _) _ _; refine Mem.go_storeAll 61 rfl rfl rfl rfl 3 M3.out rfl (by rw [mc_size HCL.out]; exact sRec) (by first | (rw [mc_size HCL.out]; done) | (rw [mc_size HCL.out]; rfl) | (rw [mc_size HCL.out, mc_size HCL.out]; done) | (rw [mc_size HCL.out, mc_size HCL.out]; rfl)) (mc_one _ rfl _ (HX1_of _ _ _ rfl rfl)) ?_; intro w6 MM'; (try simp only [List.set_cons_zero, List.set_cons_succ] at MM'); have M4 := Lib.hid MM'; clear MM'))
    refine bodyPost_ret (Bx.res_ct Tryz.results41 rfl (load_rec (mc_size HCL.out) (M4.out.blk 3 rfl))) rfl ?_
    refine ⟨C, g, d, clk, _, _, _, LL, QL', [], M, rfl, HB.out.1, HB.out.2.1, by decide, ?_, RcJ.arr HB.out.2.2.2 HQ'.out, (M4.out.take 3).nilRow⟩
    intro x hx
    rcases HQ'.out with h | h
    · exact HB.out.2.2.1 x (h ▸ hx)
    · rw [h] at hx
      rcases List.mem_append.1 hx with hx | hx
      · exact HB.out.2.2.1 x hx
      · rw [List.mem_singleton] at hx; rw [hx]; exact HX.out
end Ma
end Go.Proofs.YtdacgdokbfcgdaaGreat

namespace Go.Proofs.YtdacgdokbfcgdaaGreat
open Go.RowKit Go.BigFrame Go.Sort Go.Lib
namespace Ma
open Enc (Ent entC EntOK okX ord ordTo adj entC_len entC_one)
def nC (z : Int) : List Value := [.int .i64 z]
structure PlI (n : Nat) (d0 : Dv) (a : Nat) (C M : List Int) (d : Dv) (clk : Int) (LL : List Ent) (QL : List Evt) : Prop where
  st : RcS n C M
  dok : DvOK d
  cnt : d0.cnt ≤ d.cnt ∧ d.cnt ≤ d0.cnt + 11 * a
  log : LogI LL d0.cnt.toNat d.cnt.toNat
  pot : Ma.pot LL d.ta QL ≤ 1 + 11 * a
  que : ∀ x ∈ QL, EvtV x
  clk : Wd clk
theorem PlI.start {n : Nat} {C M : List Int} {d : Dv} (hS : RcS n C M) (hd : DvOK d) : PlI n d 0 C M d 0 [] [] :=
  ⟨hS, hd, ⟨Int.le_refl _, by omega⟩, LogI.nil _ _, by unfold Ma.pot; split <;> simp, fun x h => (by cases h), ⟨by decide, by decide⟩⟩
theorem PlI.step {n : Nat} {d0 : Dv} {a : Nat} {C M : List Int} {d : Dv} {clk : Int} {LL : List Ent} {QL : List Evt} (h : PlI n d0 a C M d clk LL QL) (h0 : 0 ≤ d0.cnt) {C' M' : List Int} {d' : Dv} {clk' : Int} {LL' : List Ent} {QL' : List Evt}
    (hS : RcS n C' M') (hk : Wd clk') (hq : ∀ x ∈ QL', EvtV x) (hJ : RcJ d LL QL d' LL' QL') : PlI n d0 (a + 1) C' M' d' clk' LL' QL' := by
  have h1 := h.cnt
  have h2 := hJ.cnt
  have h3 := h.pot
  have h4 := hJ.pot
  exact ⟨hS, hJ.dok, ⟨by omega, by omega⟩, hJ.log d0.cnt.toNat (by omega) h.log, by omega, hq, hk⟩
theorem PlI.len {n : Nat} {d0 : Dv} {a : Nat} {C M : List Int} {d : Dv} {clk : Int} {LL : List Ent} {QL : List Evt} (h : PlI n d0 a C M d clk LL QL) : LL.length ≤ 1 + 11 * a ∧ QL.length ≤ 1 + 11 * a := by
  have := h.pot
  unfold Ma.pot at this
  constructor <;> omega
def PlayTo (n : Nat) (d0 : Dv) (a : Nat) (w : World) (e : Ending) (w' : World) : Prop :=
  ∃ (C' : List Int) (g : Nat) (d' : Dv) (clk' : Int) (lv qv vo : Value) (LL' : List Ent) (QL' : List Evt) (LO : List Ou) (M' : List Int), e = .returned (.tuple #[recV C' g n d' clk' lv qv, vo]) ∧ PlI n d0 a C' M' d' clk' LL' QL' ∧ Mem w w' [memN w.heap.size g n M', logR w.heap.size lv LL', queR w.heap.size qv QL', outR w.heap.size vo LO]

set_option maxHeartbeats 8000000 in
theorem play_any (C : List Int) (A : Option Addr) (n cap : Nat) (d : Dv) (M : List Int) (A0 : Option Addr) (nl cl : Nat) (L : List Int) (hS : RcS n C M) (hd : DvOK d) (hcn : d.cnt ≤ 1000) (hnl : nl ≤ 30) (w : World) (h : Sl 1 uC w A n M) (hL : Sl 1 nC w A0 nl L) :
    Calls Tryz.prog 18 #[macV C (.slice A n cap) d, .slice A0 nl cl] w (PlayTo n d nl w) := by
  have HCL := Lib.hid hS.cpu.len
  have hn : n ≤ 1024 := by rcases hS.sz with h | h <;> omega
  have HS0 : Is (mcA C (.slice A n cap) d []).size 49 := ⟨mc_size hS.cpu.len⟩
  have HNR := Lib.hid fun (w' : World) (h' : Held w w') => newrec_any C A n cap d M hS.cpu.len hn w' (h.held h')
  have HL := Lib.hid hL
  have HB := Lib.hid (And.intro hS (And.intro hd hcn))
  have hd0 := hd.cnt
  have M0 := Lib.hid (((Mem.start w).allocF (b := w.heap.size) rfl (mcA C (.slice A n cap) d []) 57).allocF (b := w.heap.size + 1) (by simp) z52 61)
  clear h hL hS hd hn
  go_enter Tryz.func18, Tryz.ntmps18
  go_wp2_with (show wpList _ _ _ ((⟨_, Op.load 57 _, _, _, _, _⟩ : Oper) :: _) _ _; refine Mem.go_loadAll 57 rfl rfl rfl 1 M0.out rfl uMac (by rw [HS0.out]; exact sMac) ?_)
  refine (HNR.out _ M0.out.held).mono ?_
  rintro e w3 ⟨g, rfl, h3⟩
  have M3 : Hid (Mem w _ [.box w3.heap.size z52 61, memN w.heap.size g n M, .box (w.heap.size + 1) z52 61, .box w.heap.size (mcA C (.slice A n cap) d []) 57]) := Lib.hid (((M0.out.joinF h3).rebaseR 0 rfl M0.out.le).allocF (b := w3.heap.size) rfl z52 61)
  clear h3
  have HX1 := Lib.hid (HX1_of 0 (.slice none 0 0) (.slice none 0 0) rfl rfl)
  go_upto_region 2 with (show wpList _ _ _ ((⟨_, Op.store 61 _ _, _, _, _, _⟩ : Oper) :: _) _ _; refine Mem.go_storeAll 61 rfl rfl rfl rfl 0 M3.out rfl (by rw [mc_size HCL.out]; exact sRec) (by first | (rw [mc_size HCL.out]; done) | (rw [mc_size HCL.out]; rfl) | (rw [mc_size HCL.out, mc_size HCL.out]; done) | (rw [mc_size HCL.out, mc_size HCL.out]; rfl)) (mc_one _ rfl _ HX1.out) ?_; intro w4 MM'; (try simp only [List.set_cons_zero, List.set_cons_succ] at MM'); have M4 := Lib.hid MM'; clear MM')

  obtain ⟨rb, hrb⟩ : ∃ rb, w3.heap.size = rb := ⟨_, rfl⟩
  rw [hrb] at M4 ⊢
  clear hrb M3 M0 HX1 HNR
  have M5 : Hid (Mem w w4 [memN w.heap.size g n M, logR w.heap.size (.slice none 0 0) [], queR w.heap.size (.slice none 0 0) [], .box rb (mcA C (memS g n) d (recX 0 (.slice none 0 0) (.slice none 0 0))) 61, .box (w.heap.size + 1) z52 61, outR w.heap.size (.slice none 0 0) []]) := Lib.hid ((M4.out.nilRow.nilRow.nilRow).pick [1, 4, 5, 0, 2, 6] (by decide) rfl)
  go_wp2_with fail
  go_loopw [7, 8] (fun u7 u8 wr => ∃ (q : Nat) (C1 : List Int) (g1 : Nat) (d1 : Dv) (clk1 : Int) (lv qv : Value) (LL1 : List Ent) (QL1 : List Evt) (LO : List Ou) (M1 : List Int), u8 = .int .i64 (q : Int) ∧ q ≤ nl ∧ LO.length ≤ 11 * q ∧ PlI n d q C1 M1 d1 clk1 LL1 QL1 ∧ Mem w wr [memN w.heap.size g1 n M1, logR w.heap.size lv LL1, queR w.heap.size qv QL1, .box rb (mcA C1 (memS g1 n) d1 (recX clk1 lv qv)) 61, .box (w.heap.size + 1) z52 61, outR w.heap.size u7 LO]) (fun _ u8 _ => nl - (RowKit.intOf u8).toNat)
  case atStart => exact ⟨0, C, g, d, 0, _, _, [], [], [], M, rfl, Nat.zero_le _, Nat.zero_le _, PlI.start HB.out.1 HB.out.2.1, M5.out⟩
  case round =>
    obtain ⟨q, C1, g1, d1, clk1, lv, qv, LL1, QL1, LO, M1, rfl, hq, hlo, hP, hM⟩ := hrel
    obtain ⟨A1, c1, rfl, _, _⟩ := (hM.row 1 rfl).shape
    obtain ⟨A2, c2, rfl, _, _⟩ := (hM.row 2 rfl).shape
    obtain ⟨A9, cap9, rfl, hcap9, _⟩ := (hM.row 5 rfl).shape
    have N0 := Lib.hid hM
    have HP := Lib.hid hP
    have hpl := hP.len
    have HCL := Lib.hid hP.st.cpu.len
    clear hM hP M4 M5
    by_cases hlt : q < nl
    · obtain ⟨lb, loff, z, rfl, hlb, hz, hc⟩ := HL.out.at_ (Held.refl w) (k := q) hlt
      have x0 := hc 0 _ rfl
      rw [Nat.mul_one, Nat.add_zero] at x0
      have z3 : (q : Int) < nl := by omega
      have z4 : (0 : Int) ≤ q := by omega
      clear hc hz
      have HST := Lib.hid fun (w' : World) (h' : Held wr w') => step_any C1 (some ⟨g1, 0, none⟩) n n d1 clk1 A1 A2 LL1.length c1 QL1.length c2 M1 LL1 QL1 z HP.out.clk HP.out.que HP.out.st HP.out.dok (by have := HP.out.cnt; omega) w' (((N0.out.row 0 rfl).reads uC_len).1.held h') (((N0.out.row 1 rfl).reads entC_len).1.held h') (((N0.out.row 2 rfl).reads evtC_len).1.held h') (by omega) (by omega)
      have HBX := Lib.hid fun (w' : World) (hw : w'.heap[rb]? = some (.cells (mcA C1 (memS g1 n) d1 (recX clk1 (.slice A1 LL1.length c1) (.slice A2 QL1.length c2))) 61 (0, 0))) (hh : Held w w') => (⟨hw, hh.cell x0⟩ : _ ∧ _)
      go_upto_region 6 with fail
      go_cut [9, 10] (fun v9 v10 wx => ∃ (b9 : Nat) (C' : List Int) (g' : Nat) (d' : Dv) (clk' : Int) (lv' qv' : Value) (LL' : List Ent) (QL' : List Evt) (LO' : List Ou) (M' : List Int), v9 = .pointer (some ⟨b9, 0, none⟩) ∧ RcS n C' M' ∧ Wd clk' ∧ LO'.length ≤ 11 ∧ (∀ x ∈ QL', EvtV x) ∧ RcJ d1 LL1 QL1 d' LL' QL' ∧ Mem w wx [.box b9 (mcA C' (memS g' n) d' (recX clk' lv' qv')) 61, memN w.heap.size g' n M', logR w.heap.size lv' LL', queR w.heap.size qv' QL', outR w.heap.size v10 LO', .box rb (mcA C1 (memS g1 n) d1 (recX clk1 (.slice A1 LL1.length c1) (.slice A2 QL1.length c2))) 61, .box (w.heap.size + 1) z52 61, outR w.heap.size (.slice A9 LO.length cap9) LO])
      case first =>
        refine Tl.start 10 (fun w' => w'.heap[rb]? = some (.cells (mcA C1 (memS g1 n) d1 (recX clk1 (.slice A1 LL1.length c1) (.slice A2 QL1.length c2))) 61 (0, 0)) ∧ w'.cell? ⟨lb, loff + q, none⟩ = some (.int .i64 z)) (by kernel_rfl) (HBX.out _ (N0.out.drew.blk 3 rfl) N0.out.drew.held) (fun hHeld => ?_)
        refine Tl.ty 0 (⟨some 20, .load 61 (.tmp 6), 61, "make.go:184", #[], none⟩ : Oper) (.agg (mcA C1 (memS g1 n) d1 (recX clk1 (.slice A1 LL1.length c1) (.slice A2 QL1.length c2)))) rfl (Big.yields_load 61 rfl rfl rfl (fun w' h => h.1) uRec (by rw [mc_size HCL.out]; exact sRec)) (by assumption) ?_
        try simp only [Act.put, Tl.p2, Tl.p3, Tl.p4]
        refine Tl.tf 1 (⟨some 21, .move (.tmp 1), 22, "make.go:184", #[], none⟩ : Oper) ?v2 rfl ?hy2 (by assumption) ?_
        case hy2 => (intro w; go_simp; all_goals (with_reducible rfl))
        try simp only [Act.put, Tl.p2, Tl.p3, Tl.p4]
        refine Tl.tf 2 (⟨some 22, .move (.tmp 8), 3, "make.go:184", #[], none⟩ : Oper) ?v3 rfl ?hy3 (by assumption) ?_
        case hy3 => (intro w; go_simp; all_goals (with_reducible rfl))
        try simp only [Act.put, Tl.p2, Tl.p3, Tl.p4]
        refine Tl.tf 3 (⟨some 23, .indexAddr 22 (.tmp 21) (.tmp 22), 0, "make.go:184", #[⟨1, .data⟩, ⟨2, .data⟩], none⟩ : Oper) ?v4 rfl ?hy4 (by assumption) ?_
        case hy4 => (intro w; go_simp; all_goals (with_reducible rfl))
        try simp only [Act.put, Tl.p2, Tl.p3, Tl.p4]
        refine Tl.tk 4 (⟨some 24, .load 3 (.tmp 23), 3, "make.go:184", #[⟨3, .data⟩], none⟩ : Oper) ?v5 rfl ?hy5 (by assumption) ?_
        case hy5 => (intro w hSw; (try dsimp only at hSw); go_simp; all_goals (with_reducible rfl))
        try simp only [Act.put, Tl.p2, Tl.p3, Tl.p4]
        refine Tl.many (rs := [5, 9]) (by kernel_rfl) (by simp) ?_
        refine Tl.All.cons (o := (⟨some 25, .call { callee := .value (.func 41), args := #[.tmp 20, .tmp 24], argTypes := #[61, 3] }, 63, "make.go:184", #[⟨0, .data⟩, ⟨4, .data⟩], none⟩ : Oper)) rfl (fun K hK => ?_) ?_
        · go_simp
          refine (HST.out _ ((Held.refl wr).drew)).mono ?_
          rintro e w5 ⟨C', g', d', clk', lv', qv', vo, LL', QL', LO', M', rfl, hS', hk', hlo', hq', hJ, h6⟩
          have HCL2 := Lib.hid hS'.cpu.len
          have HR1 := Lib.hid (row_one (h6.row 1 rfl))
          have HR2 := Lib.hid (row_one (h6.row 2 rfl))
          have N5 := Lib.hid (N0.out.drew.fourF h6)
          have HZ := Lib.hid (And.intro hS' (And.intro hk' (And.intro hlo' (And.intro hq' hJ))))
          clear h6 hS' hk' hlo' hq' hJ
          dsimp only
          refine hK.out _ _ (HBX.out _ (N5.out.blk 7 rfl) N5.out.held) (fun hHeld => ?_)
          clear hK K
          try simp only [Act.put, Tl.p2, Tl.p3, Tl.p4]
          refine Tl.tf 6 (⟨some 19, .move (.tmp 25), 63, "make.go:184", #[⟨5, .data⟩], none⟩ : Oper) ?v6 rfl ?hy6 (by assumption) ?_
          case hy6 => (intro w; go_simp; all_goals (with_reducible rfl))
          try simp only [Act.put, Tl.p2, Tl.p3, Tl.p4]
          refine Tl.tf 7 (⟨some 26, .extract (.tmp 19) 0, 61, "make.go:184", #[⟨6, .data⟩], none⟩ : Oper) ?v7 rfl ?hy7 (by assumption) ?_
          case hy7 => (intro w; go_simp; all_goals (with_reducible rfl))
          try simp only [Act.put, Tl.p2, Tl.p3, Tl.p4]
          refine Tl.tf 8 (⟨some 27, .extract (.tmp 19) 1, 62, "make.go:184", #[⟨6, .data⟩, ⟨10, .gcOnly .lateStores⟩], none⟩ : Oper) ?v8 rfl ?hy8 (by assumption) ?_
          case hy8 => (intro w; go_simp; all_goals (with_reducible rfl))
          try simp only [Act.put, Tl.p2, Tl.p3, Tl.p4]
          refine Tl.step (i := 9) (o := (⟨some 9, .alloc 61, 0, "make.go:184", #[], none⟩ : Oper)) (by kernel_rfl) rfl (fun K hK => ?_)
          go_simp
          have N5_9 := Lib.hid (N5.out.allocF (b := w5.heap.size) (by simp) z52 61)
          refine hK.out _ _ (HBX.out _ (N5_9.out.blk 8 rfl) N5_9.out.held) (fun hHeld => ?_)
          clear hK K
          try simp only [Act.put, Tl.p2, Tl.p3, Tl.p4]
          refine Tl.stepN (i := 10) (o := (⟨none, .store 61 (.tmp 9) (.tmp 26), 0, "make.go:184", #[⟨9, .data⟩, ⟨7, .data⟩, ⟨5, .chain⟩, ⟨0, .phase⟩, ⟨1, .phase⟩, ⟨2, .phase⟩, ⟨3, .phase⟩, ⟨4, .phase⟩, ⟨5, .phase⟩, ⟨6, .phase⟩, ⟨7, .phase⟩, ⟨8, .textOnly .lateStores⟩, ⟨9, .phase⟩], none⟩ : Oper)) (by kernel_rfl) (by kernel_rfl) rfl (fun K hK => ?_)
          refine Mem.step_storeAll 61 rfl rfl rfl rfl 0 N5_9.out rfl (by rw [mc_size HCL2.out]; exact sRec) (by rw [mc_size HCL2.out]; rfl) (mc_one _ rfl _ (HX1_of _ _ _ HR1.out HR2.out)) ?_
          intro w7 MM'
          (try simp only [List.set_cons_zero, List.set_cons_succ] at MM')
          have M7 := Lib.hid MM'
          clear MM'
          refine hK.out _ _ ?_
          clear hK K
          try simp only [Act.put, Tl.p2, Tl.p3, Tl.p4]
          refine Tl.td 11 (⟨some 10, .assign (.tmp 27), 62, "make.go:184", #[⟨8, .data⟩, ⟨10, .chain⟩, ⟨0, .phase⟩, ⟨1, .phase⟩, ⟨2, .phase⟩, ⟨3, .phase⟩, ⟨4, .phase⟩, ⟨5, .phase⟩, ⟨6, .phase⟩, ⟨7, .phase⟩, ⟨8, .phase⟩, ⟨9, .phase⟩, ⟨10, .phase⟩], none⟩ : Oper) ?v9 rfl ?hy9 ?_
          case hy9 => (intro w; go_simp; all_goals (with_reducible rfl))
          try simp only [Act.put, Tl.p2, Tl.p3, Tl.p4]
          refine Tl.done (by kernel_rfl) ?_ _
          go_wp2
          go_meet
          case rel => exact ⟨_, C', g', d', clk', lv', qv', LL', QL', LO', M', rfl, HZ.out.1, HZ.out.2.1, HZ.out.2.2.1, HZ.out.2.2.2.1, HZ.out.2.2.2.2, M7.out.pick [0, 1, 2, 3, 4, 8, 9, 10] (by decide) rfl⟩
        refine Tl.All.cons (o := (⟨some 9, .alloc 61, 0, "make.go:184", #[], none⟩ : Oper)) rfl (fun K hK => ?_) ?_
        · go_simp
          have N9 := Lib.hid (N0.out.allocF (b := wr.heap.size) (by simp) z52 61)
          refine hK.out _ _ (HBX.out _ (N9.out.drew.blk 4 rfl) N9.out.drew.held) (fun hHeld => ?_)
          clear hK K
          try simp only [Act.put, Tl.p2, Tl.p3, Tl.p4]
          refine Tl.step (i := 5) (o := (⟨some 25, .call { callee := .value (.func 41), args := #[.tmp 20, .tmp 24], argTypes := #[61, 3] }, 63, "make.go:184", #[⟨0, .data⟩, ⟨4, .data⟩], none⟩ : Oper)) (by kernel_rfl) rfl (fun K hK => ?_)
          go_simp
          refine (HST.out _ (((Held.refl wr).alloc _).drew)).mono ?_
          rintro e w5 ⟨C', g', d', clk', lv', qv', vo, LL', QL', LO', M', rfl, hS', hk', hlo', hq', hJ, h6⟩
          have HCL2 := Lib.hid hS'.cpu.len
          have HR1 := Lib.hid (row_one (h6.row 1 rfl))
          have HR2 := Lib.hid (row_one (h6.row 2 rfl))
          have N9_5 := Lib.hid (N9.out.drew.fourF h6)
          have HZ := Lib.hid (And.intro hS' (And.intro hk' (And.intro hlo' (And.intro hq' hJ))))
          clear h6 hS' hk' hlo' hq' hJ
          dsimp only
          refine hK.out _ _ (HBX.out _ (N9_5.out.blk 8 rfl) N9_5.out.held) (fun hHeld => ?_)
          clear hK K
          try simp only [Act.put, Tl.p2, Tl.p3, Tl.p4]
          refine Tl.tf 6 (⟨some 19, .move (.tmp 25), 63, "make.go:184", #[⟨5, .data⟩], none⟩ : Oper) ?v10 rfl ?hy10 (by assumption) ?_
          case hy10 => (intro w; go_simp; all_goals (with_reducible rfl))
          try simp only [Act.put, Tl.p2, Tl.p3, Tl.p4]
          refine Tl.tf 7 (⟨some 26, .extract (.tmp 19) 0, 61, "make.go:184", #[⟨6, .data⟩], none⟩ : Oper) ?v11 rfl ?hy11 (by assumption) ?_
          case hy11 => (intro w; go_simp; all_goals (with_reducible rfl))
          try simp only [Act.put, Tl.p2, Tl.p3, Tl.p4]
          refine Tl.tf 8 (⟨some 27, .extract (.tmp 19) 1, 62, "make.go:184", #[⟨6, .data⟩, ⟨10, .gcOnly .lateStores⟩], none⟩ : Oper) ?v12 rfl ?hy12 (by assumption) ?_
          case hy12 => (intro w; go_simp; all_goals (with_reducible rfl))
          try simp only [Act.put, Tl.p2, Tl.p3, Tl.p4]
          refine Tl.stepN (i := 10) (o := (⟨none, .store 61 (.tmp 9) (.tmp 26), 0, "make.go:184", #[⟨9, .data⟩, ⟨7, .data⟩, ⟨5, .chain⟩, ⟨0, .phase⟩, ⟨1, .phase⟩, ⟨2, .phase⟩, ⟨3, .phase⟩, ⟨4, .phase⟩, ⟨5, .phase⟩, ⟨6, .phase⟩, ⟨7, .phase⟩, ⟨8, .textOnly .lateStores⟩, ⟨9, .phase⟩], none⟩ : Oper)) (by kernel_rfl) (by kernel_rfl) rfl (fun K hK => ?_)
          refine Mem.step_storeAll 61 rfl rfl rfl rfl 4 N9_5.out rfl (by rw [mc_size HCL2.out]; exact sRec) (by rw [mc_size HCL2.out]; rfl) (mc_one _ rfl _ (HX1_of _ _ _ HR1.out HR2.out)) ?_
          intro w7 MM'
          (try simp only [List.set_cons_zero, List.set_cons_succ] at MM')
          have M7 := Lib.hid MM'
          clear MM'
          refine hK.out _ _ ?_
          clear hK K
          try simp only [Act.put, Tl.p2, Tl.p3, Tl.p4]
          refine Tl.td 11 (⟨some 10, .assign (.tmp 27), 62, "make.go:184", #[⟨8, .data⟩, ⟨10, .chain⟩, ⟨0, .phase⟩, ⟨1, .phase⟩, ⟨2, .phase⟩, ⟨3, .phase⟩, ⟨4, .phase⟩, ⟨5, .phase⟩, ⟨6, .phase⟩, ⟨7, .phase⟩, ⟨8, .phase⟩, ⟨9, .phase⟩, ⟨10, .phase⟩], none⟩ : Oper) ?v13 rfl ?hy13 ?_
          case hy13 => (intro w; go_simp; all_goals (with_reducible rfl))
          try simp only [Act.put, Tl.p2, Tl.p3, Tl.p4]
          refine Tl.done (by kernel_rfl) ?_ _
          go_wp2
          go_meet
          case rel => exact ⟨_, C', g', d', clk', lv', qv', LL', QL', LO', M', rfl, HZ.out.1, HZ.out.2.1, HZ.out.2.2.1, HZ.out.2.2.2.1, HZ.out.2.2.2.2, M7.out.pick [4, 0, 1, 2, 3, 8, 9, 10] (by decide) rfl⟩
        exact Tl.All.nil
      case rest =>
        obtain ⟨b9, C', g', d', clk', lv', qv', LL', QL', LO', M', rfl, hS', hk', hlo', hq', hJ, hM'⟩ := hcut
        obtain ⟨A6, cap6, rfl, hcap6, _⟩ := (hM'.row 4 rfl).shape
        have HX1 := Lib.hid (HX1_of clk' lv' qv' (row_one (hM'.row 2 rfl)) (row_one (hM'.row 3 rfl)))
        have M7 := Lib.hid hM'
        have HP2 := Lib.hid (HP.out.step hd0.1 hS' hk' hq' hJ)
        have HCLo := HCL
        clear HCL
        have HCL := Lib.hid hS'.cpu.len
        clear hM' hS' hk' hq' hJ x0 HBX HST N0 HP
        go_upto_region 8 with (first | (show wpList _ _ _ ((⟨_, Op.load 61 _, _, _, _, _⟩ : Oper) :: _) _ _; refine Mem.go_loadAll 61 rfl rfl rfl 0 M7.out rfl uRec (by rw [mc_size HCL.out]; exact sRec) ?_) | (show wpList _ _ _ ((⟨_, Op.store 61 _ _, _, _, _, _⟩ : Oper) :: _) _ _; refine Mem.go_storeAll 61 rfl rfl rfl rfl 5 M7.out rfl (by rw [mc_size HCL.out]; exact sRec) (by first | (rw [mc_size HCL.out, mc_size HCLo.out]; done) | (rw [mc_size HCL.out, mc_size HCLo.out]; rfl) | (rw [mc_size HCL.out]; rfl) | (rw [mc_size HCL.out, mc_size HCL.out]; done) | (rw [mc_size HCL.out, mc_size HCL.out]; rfl)) (mc_one _ rfl _ HX1.out) ?_; intro w8 MM'; (try simp only [List.set_cons_zero, List.set_cons_succ] at MM'); have M8 := Lib.hid MM'; clear MM'))
        go_wp2_with (at_builtin; refine Mem.wp_cat M8.out 7 rfl rfl _ _ _ rfl _ 40 Tryz.underlying62 info_out rfl (by decide) oC_len oC_one LO' A6 LO'.length cap6 rfl rfl ((M8.out.row 4 rfl).reads oC_len).1 rfl (by omega) (by decide) ?_; intro A7 cap7 w17 MM' hA7; (try simp only [List.set_cons_zero, List.set_cons_succ] at MM'); have M9 := Lib.hid MM'; clear MM' hA7)
        go_roundw
        case rel => exact ⟨q + 1, C', g', d', clk', lv', qv', LL', QL', LO ++ LO', M', by go_num, by omega, by rw [List.length_append]; omega, HP2.out, M9.out.pick [1, 2, 3, 5, 6, 7] (by decide) rfl⟩
        case measure => (simp [RowKit.intOf]) <;> omega
    · obtain rfl : q = nl := by omega
      have z3 : ¬ (q : Int) < q := by omega
      have HX1 := Lib.hid (HX1_of clk1 (.slice A1 LL1.length c1) (.slice A2 QL1.length c2) rfl rfl)
      go_wp2_with (first | (show wpList _ _ _ ((⟨_, Op.load 61 _, _, _, _, _⟩ : Oper) :: _) _ _; refine Mem.go_loadAll 61 rfl rfl rfl 3 N0.out rfl uRec (by rw [mc_size HCL.out]; exact sRec) ?_) | (show wpList _ _ _ ((⟨_, Op.store 61 _ _, _, _, _, _⟩ : Oper) :: _) _ _; refine Mem.go_storeAll 61 rfl rfl rfl rfl 4 N0.out rfl (by rw [mc_size HCL.out]; exact sRec) (by first | (rw [mc_size HCL.out]; done) | (rw [mc_size HCL.out]; rfl) | (rw [mc_size HCL.out, mc_size HCL.out]; done) | (rw [mc_size HCL.out, mc_size HCL.out]; rfl)) (mc_one _ rfl _ HX1.out) ?_; intro w7 MM'; (try simp only [List.set_cons_zero, List.set_cons_succ] at MM'); have M7 := Lib.hid MM'; clear MM'))
      refine bodyPost_ret (Bx.res_ct Tryz.results18 rfl (load_rec (mc_size HCL.out) (M7.out.blk 4 rfl))) rfl ?_
      exact ⟨C1, g1, d1, clk1, _, _, _, LL1, QL1, LO, M1, rfl, HP.out, M7.out.pick [0, 1, 2, 5] (by decide) rfl⟩
end Ma
end Go.Proofs.YtdacgdokbfcgdaaGreat

namespace Go.Proofs.YtdacgdokbfcgdaaGreat
open Go.Shelf Go.RowKit
namespace Bld
def ren : Go.Shelf.Ren := ⟨fun | 240 => 44 | 276 => 71 | 166 => 23 | 170 => 26 | 169 => 27 | n => n, fun | 0 => 0 | 3 => 3 | 4 => 4 | 5 => 5 | 9 => 9 | 20 => 20 | 37 => 37 | 70 => 74 | 72 => 76 | 75 => 78 | 80 => 84 | 127 => 106 | 164 => 139 | n => n, fun | n => n⟩
theorem lays166 : Go.Proofs.Lays.n166 Tryz.prog ren := {
  mixed := by kernel_rfl
  f166 := Tryz.func23.trans (congrArg some (by kernel_rfl))
  f240 := Tryz.func44.trans (congrArg some (by kernel_rfl))
  f276 := Tryz.func71.trans (congrArg some (by kernel_rfl))
  t0 := Tryz.underlying0
  a0 := Tryz.isAgg0
  z0 := Tryz.sizeOf0
  v0 := Tryz.zeroValue0
  t3 := Tryz.underlying3
  a3 := Tryz.isAgg3
  z3 := Tryz.sizeOf3
  v3 := Tryz.zeroValue3
  t4 := Tryz.underlying4
  a4 := Tryz.isAgg4
  z4 := Tryz.sizeOf4
  v4 := Tryz.zeroValue4
  t9 := Tryz.underlying9
  a9 := Tryz.isAgg9
  z9 := Tryz.sizeOf9
  v9 := Tryz.zeroValue9
  t20 := Tryz.underlying20
  a20 := Tryz.isAgg20
  z20 := Tryz.sizeOf20
  v20 := Tryz.zeroValue20
  t37 := Tryz.underlying37
  a37 := Tryz.isAgg37
  z37 := Tryz.sizeOf37
  v37 := Tryz.zeroValue37
  t70 := Tryz.underlying74
  a70 := Tryz.isAgg74
  z70 := Tryz.sizeOf74
  v70 := Tryz.zeroValue74
  t72 := Tryz.underlying76
  a72 := Tryz.isAgg76
  z72 := Tryz.sizeOf76
  v72 := Tryz.zeroValue76
  t75 := Tryz.underlying78
  a75 := Tryz.isAgg78
  z75 := Tryz.sizeOf78
  v75 := Tryz.zeroValue78
  t164 := Tryz.underlying139
  a164 := Tryz.isAgg139
  z164 := Tryz.sizeOf139
  v164 := Tryz.zeroValue139 }
theorem lays170 : Go.Proofs.Lays.n170 Tryz.prog ren := {
  mixed := by kernel_rfl
  f170 := Tryz.func26.trans (congrArg some (by kernel_rfl))
  t0 := Tryz.underlying0
  a0 := Tryz.isAgg0
  z0 := Tryz.sizeOf0
  v0 := Tryz.zeroValue0
  t3 := Tryz.underlying3
  a3 := Tryz.isAgg3
  z3 := Tryz.sizeOf3
  v3 := Tryz.zeroValue3
  t37 := Tryz.underlying37
  a37 := Tryz.isAgg37
  z37 := Tryz.sizeOf37
  v37 := Tryz.zeroValue37
  t70 := Tryz.underlying74
  a70 := Tryz.isAgg74
  z70 := Tryz.sizeOf74
  v70 := Tryz.zeroValue74
  t72 := Tryz.underlying76
  a72 := Tryz.isAgg76
  z72 := Tryz.sizeOf76
  v72 := Tryz.zeroValue76 }
theorem lays169 : Go.Proofs.Lays.n169 Tryz.prog ren := {
  mixed := by kernel_rfl
  f169 := Tryz.func27.trans (congrArg some (by kernel_rfl))
  t0 := Tryz.underlying0
  a0 := Tryz.isAgg0
  z0 := Tryz.sizeOf0
  v0 := Tryz.zeroValue0
  t3 := Tryz.underlying3
  a3 := Tryz.isAgg3
  z3 := Tryz.sizeOf3
  v3 := Tryz.zeroValue3
  t9 := Tryz.underlying9
  a9 := Tryz.isAgg9
  z9 := Tryz.sizeOf9
  v9 := Tryz.zeroValue9
  t37 := Tryz.underlying37
  a37 := Tryz.isAgg37
  z37 := Tryz.sizeOf37
  v37 := Tryz.zeroValue37
  t70 := Tryz.underlying74
  a70 := Tryz.isAgg74
  z70 := Tryz.sizeOf74
  v70 := Tryz.zeroValue74
  t72 := Tryz.underlying76
  a72 := Tryz.isAgg76
  z72 := Tryz.sizeOf76
  v72 := Tryz.zeroValue76
  t127 := Tryz.underlying106
  a127 := Tryz.isAgg106
  z127 := Tryz.sizeOf106
  v127 := Tryz.zeroValue106 }
theorem extra : Builder.Extra Tryz.prog ren := {
  sizeBuilder := by kernel_rfl
  liesBuilder := by kernel_rfl
  t5 := Tryz.underlying5
  a5 := Tryz.isAgg5
  z5 := Tryz.sizeOf5
  v5 := Tryz.zeroValue5
  infoByte := by kernel_rfl
  cellsByte := by kernel_rfl
  sizeByte := by kernel_rfl
  neB5 := by decide }
/-- A builder at block b that holds these bytes (its base is its own block). -/
def Is (b : Nat) (l : List UInt8) (w : World) : Prop := Lib.IsBuilderF 76 5 b b (Lib.byteCells l) w
/-- What a call on the builder at b keeps: all below it, and each block that is neither it nor a row of bytes. -/
def Kept (b : Nat) (w w' : World) : Prop := Below b w w' ∧ Lib.OthersKept 5 (some b) w w'
theorem Is.new (w : World) : Is w.heap.size [] (w.alloc (.cells #[.pointer none, .slice none 0 0] 76)) := Lib.IsBuilderF.of (Lib.fresh_isBuilder _ _ w)
theorem at_held {b : Nat} {p : Value} {bs : List Value} {w a : World} (h : Lib.BuilderAtF 76 5 b b p bs w) (ha : Held w a) : Lib.BuilderAtF 76 5 b b p bs a := by
  have hlt := h.lt
  obtain ⟨hB, v, hv, hown, hne⟩ := h
  exact ⟨hB, v, (ha.block b hlt).trans hv, hown.kept (row := none) ⟨ha.os, ha.tape, ha.output, ha.size, fun k hk _ => ha.block k hk⟩ (Classical.em _), hne⟩
theorem Is.held {b : Nat} {l : List UInt8} {w a : World} (h : Is b l w) (ha : Held w a) : Is b l a := Or.elim h (fun x => .inl (at_held x ha)) (fun x => .inr (at_held x ha))
theorem Kept.box {b q : Nat} {w a : World} {cs : Array Value} {T : TypeId} {fz : Nat × Nat} (h : Kept b w a) (hq : w.heap[q]? = some (.cells cs T fz)) (hb : q ≠ b) (hT : T ≠ 5) : a.heap[q]? = some (.cells cs T fz) :=
  h.2 q _ hq (by simpa using hb) (by intro c z e; cases e; exact hT rfl)
theorem Kept.heldOf {b : Nat} {W w a : World} (h : Kept b w a) (hW : Held W w) (hb : W.heap.size ≤ b) : Held W a := Below.trans hW (Below.mono h.1 hb)
theorem write_any (b : Nat) (l : List UInt8) (s : ByteArray) (w : World) (h : Is b l w) (hlen : l.length + s.size ≤ 140737488355328) (hB : b ≤ w.heap.size) :
    Calls Tryz.prog 23 #[.pointer (some ⟨b, 0, none⟩), .string s] w fun e w' => e = .returned (.tuple #[.int .i64 s.size, .nilIface]) ∧ Is b (l ++ s.data.toList) w' ∧ Kept b w w' := by
  refine (Any.Builder_WriteString_k lays166 extra b b (Lib.byteCells l) s w h (by rw [Lib.byteCells_length]; exact hlen) hB).mono ?_
  rintro e w' ⟨rfl, h1, h2, h3⟩
  refine ⟨rfl, ?_, h2, h3⟩
  unfold Is
  rw [Lib.byteCells_append]
  exact Or.inr h1
theorem string_any (b : Nat) (l : List UInt8) (w : World) (h : Is b l w) (hB : b ≤ w.heap.size) :
    Calls Tryz.prog 27 #[.pointer (some ⟨b, 0, none⟩)] w fun e w' => e = .returned (.string ⟨l.toArray⟩) ∧ Is b l w' ∧ Kept b w w' :=
  (Any.Builder_String_any_k lays169 extra b b l w h hB).mono fun _ _ ⟨h0, h1, h2, h3⟩ => ⟨h0, h1, h2, h3⟩
theorem len_any (b : Nat) (l : List UInt8) (w : World) (h : Is b l w) :
    Calls Tryz.prog 26 #[.pointer (some ⟨b, 0, none⟩)] w fun e w' => e = .returned (.int .i64 l.length) ∧ w' = w := by
  have := Any.Builder_Len_f lays170 b b (Lib.byteCells l) w h
  rw [Lib.byteCells_length] at this
  exact this
end Bld
end Go.Proofs.YtdacgdokbfcgdaaGreat

namespace Go.Proofs.YtdacgdokbfcgdaaGreat
open Go.RowKit Go.BigFrame Go.Sort
namespace Enc
open Lgc Lg Strs
theorem encE1 (n : Nat) (d : List UInt8) (k : Nat) (h : k = 1 ∨ k = 3 ∨ k = 6) : encE k n d = Uv.put k ++ Uv.put n := by
  unfold encE; rw [if_pos (by omega)]; rfl
theorem encE4 (n : Nat) (d : List UInt8) : encE (4 : Nat) n d = Uv.put 4 ++ Uv.put n ++ (Uv.put d.length ++ d) := rfl
theorem encE5 (n : Nat) (d : List UInt8) : encE (5 : Nat) n d = Uv.put 5 ++ (Uv.put d.length ++ d) := rfl
theorem encE2 (n : Nat) (d : List UInt8) : encE (2 : Nat) n d = Uv.put 2 := rfl
set_option maxHeartbeats 2000000 in
theorem encodeEvent_any (k n : Nat) (d : ByteArray) (h1 : 1 ≤ k) (h6 : k ≤ 6) (hn : (n : Int) ≤ 4294967295) (hd : d.size ≤ 128) (w : World) :
    Calls Tryz.prog 25 #[.agg #[.int .i64 k, .int .u32 n, .string d]] w (MakesS (encE k n d.data.toList) w) := by
  have hp1 := Uv.put_len k (by omega)
  have hp2 := Uv.put_len n (by omega)
  have hp3 := Uv.put_len d.size (by omega)
  have H1 := Lib.hid (fun w => put_any k (by omega) w)
  have H2 := Lib.hid (fun w => put_any n (by omega) w)
  have H3 := Lib.hid (fun w => put_any d.size (by omega) w)
  have hlen := len_eq d
  have E1 : Hid (k = 1 ∨ k = 3 ∨ k = 6 → encE k n d.data.toList = Uv.put k ++ Uv.put n) := fun h => encE1 n _ k h
  have E4 : Hid (k = 4 → encE k n d.data.toList = Uv.put k ++ Uv.put n ++ (Uv.put d.size ++ d.data.toList)) := fun h => by subst h; rw [← hlen]; exact encE4 n _
  have E5 : Hid (k = 5 → encE k n d.data.toList = Uv.put k ++ (Uv.put d.size ++ d.data.toList)) := fun h => by subst h; rw [← hlen]; exact encE5 n _
  have E2 : Hid (k = 2 → encE k n d.data.toList = Uv.put k) := fun h => by subst h; exact encE2 n _
  generalize Uv.put k = a at hp1 H1 E1 E2 E4 E5
  generalize Uv.put n = b at hp2 H2 E1 E4
  generalize Uv.put d.size = c at hp3 H3 E4 E5
  generalize encE k n d.data.toList = r at E1 E2 E4 E5
  clear hlen
  have HB := Lib.hid (fun w' (h : Held (w.alloc (.cells #[.int .i64 k, .int .u32 n, .string d] 66)) w') => And.intro (h.cell (p := ⟨w.heap.size, 0, none⟩) (v := .int .i64 k) (by simp)) (And.intro (h.cell (p := ⟨w.heap.size, 1, none⟩) (v := .int .u32 n) (by simp)) (h.cell (p := ⟨w.heap.size, 2, none⟩) (v := .string d) (by simp))))
  go_enter Tryz.func25, Tryz.ntmps25
  go_wp2_with fail
  refine (H1.out _).mono ?_
  rintro e w1 ⟨rfl, q1⟩
  have W1 := Lib.hid q1
  obtain ⟨c0, c1, c2⟩ := HB.out _ q1
  clear q1
  go_wp2_with fail
  refine (H2.out _).mono ?_
  rintro e w2 ⟨rfl, q2⟩
  have W2 := Lib.hid (Held.step W1.out q2)
  obtain ⟨d0, d1, d2⟩ := HB.out _ W2.out
  clear q2 c0 c1 c2 W1
  go_wp2
  have k2 := cell_regrown d2
  have cA := Lib.hid fun d os => Calls.regrown_of (d := d) (os := os) (H3.out (grow (redrawn w2 d) os))
  refine wp_region_quiet_below (by kernel_rfl) (by kernel_rfl) ?_
  repeat (go_big_quiet_step (first | (go_at_call 24; exact cA.out _ _)))
  refine wpQuiet_nil ?_
  intro _ hw'
  obtain ⟨⟨dq, osq⟩, hw''⟩ := hw'
  subst hw''
  have W3 := Lib.hid (W2.out.step (below_regrown w2 dq osq))
  obtain ⟨e0, e1, e2⟩ := HB.out _ W3.out
  clear d0 d1 d2 k2 cA W2 H1 H2 H3
  obtain ⟨w3, hw3⟩ : ∃ x, x = grow (redrawn w2 dq) osq := ⟨_, rfl⟩
  rw [← hw3] at W3 e0 e1 e2 ⊢
  clear hw3
  have fin : Hid (∀ s : ByteArray, s.data.toList = r → MakesS r w (.returned (.string s)) w3) := fun s hs => ⟨ret_str hs, ((Held.refl w).alloc _).step W3.out⟩
  have hk : k = 1 ∨ k = 2 ∨ k = 3 ∨ k = 4 ∨ k = 5 ∨ k = 6 := by omega
  rcases hk with rfl | rfl | rfl | rfl | rfl | rfl
  · have he := E1.out (by omega)
    clear E1 E2 E4 E5
    go_wp2
    go_ret
    exact fin.out _ (by rw [he]; simp)
  · have he := E2.out rfl
    clear E1 E2 E4 E5
    go_wp2
    go_ret
    exact fin.out _ (by rw [he])
  · have he := E1.out (by omega)
    clear E1 E2 E4 E5
    go_wp2
    go_ret
    exact fin.out _ (by rw [he]; simp)
  · have he := E4.out rfl
    clear E1 E2 E4 E5
    go_wp2
    go_ret
    exact fin.out _ (by rw [he]; simp)
  · have he := E5.out rfl
    clear E1 E2 E4 E5
    go_wp2
    go_ret
    exact fin.out _ (by rw [he]; simp)
  · have he := E1.out (by omega)
    clear E1 E2 E4 E5
    go_wp2
    go_ret
    exact fin.out _ (by rw [he]; simp)
end Enc
end Go.Proofs.YtdacgdokbfcgdaaGreat

namespace Go.Proofs.YtdacgdokbfcgdaaGreat
open Go.RowKit Go.BigFrame Go.Sort
namespace Enc
open Lgc Lg Strs
set_option maxHeartbeats 2000000 in
theorem ord_any (A : Option Addr) (n cap : Nat) (L : List Ent) (w : World) (h : Sl 4 entC w A n L) (hn : n ≤ 1000000) (hx : ∀ x ∈ L, EntOK x) :
    Calls Tryz.prog 22 #[.slice A n cap] w fun e w' => e = .returned (.bool (ord L)) ∧ Held w w' := by
  have HS := Lib.hid h
  have HX := Lib.hid hx
  have HL := Lib.hid h.1
  clear h hx
  go_enter Tryz.func22, Tryz.ntmps22
  go_wp2
  go_loopw [3] (fun i wr => ∃ q : Nat, i = .int .i64 ((q + 1 : Nat) : Int) ∧ (q = 0 ∨ q + 1 ≤ n) ∧ ordTo L q = true ∧ Held w wr) (fun i _ => n - (intOf i).toNat)
  case atStart => exact ⟨0, rfl, .inl rfl, rfl, Held.refl _⟩
  case round =>
    obtain ⟨q, rfl, hq, ho, hh⟩ := hrel
    have HO := Lib.hid ho
    have HH := Lib.hid hh
    clear ho
    by_cases hlt : q + 1 < n
    · obtain ⟨b, off, x, rfl, hb, hx1, hc1⟩ := HS.out.at_ hh (k := q) (by omega)
      obtain ⟨b', off', y, he, _, hy1, hc2⟩ := HS.out.at_ hh (k := q + 1) (by omega)
      injection he with he
      injection he with hb1 ho1
      subst hb1 ho1
      have x0 := hc1 0 _ rfl
      have x1 := hc1 1 _ rfl
      have x2 := hc1 2 _ rfl
      have x3 := hc1 3 _ rfl
      have y0 := hc2 0 _ rfl
      have y1 := hc2 1 _ rfl
      have y2 := hc2 2 _ rfl
      have y3 := hc2 3 _ rfl
      rw [Nat.add_zero] at x0 y0
      clear hc1 hc2
      have z1 : (0 : Int) ≤ ↑q + 1 := by omega
      have z2 : (↑q + 1 : Int) < n := by omega
      have z3 : (0 : Int) ≤ ↑q := by omega
      have z4 : (↑q : Int) < n := by omega
      have hbr : b < wr.heap.size := by have := HH.out.le; omega
      have hbr2 : b < wr.heap.size + 1 := by omega
      have hbn : ¬ b = wr.heap.size := by omega
      have hbn2 : ¬ b = wr.heap.size + 1 := by omega
      have hxe : L[q]'(by have := HL.out; omega) = x := by rw [List.getElem?_eq_getElem (by have := HL.out; omega)] at hx1; injection hx1
      have hye : L[q + 1]'(by have := HL.out; omega) = y := by rw [List.getElem?_eq_getElem (by have := HL.out; omega)] at hy1; injection hy1
      have hn1 := ordTo_next (L := L) (k := q) (by have := HL.out; omega)
      rw [hxe, hye, HO.out] at hn1
      have HNX := Lib.hid hn1
      have HSZ : Hid (w.heap.size ≤ wr.heap.size) := HH.out.le
      clear hx1 hy1 hxe hye hn1 hq hb hh
      rcases Nat.lt_trichotomy y.t x.t with ht | ht | ht
      · have hno : Hid (ord L = false) := ordTo_no (j := q + 1) (by rw [HNX.out]; simp [adj, ht]) (by have := HL.out; omega)
        have t1 : (y.t : Int) < x.t := by omega
        go_wp2
        go_region
        all_goals
          go_wp2
          go_ret
          exact ⟨by rw [hno.out]; rfl, ((HH.out.drew.alloc _).alloc _)⟩
      · have t1 : ((y.t : Int) == x.t) = true := by simp [ht]
        have t2 : decide (y.t < x.t) = false := by simp; omega
        have t3 : decide ((y.t : Int) < x.t) = false := by simp; omega
        by_cases hk : x.k = 1
        · have hno : Hid (ord L = false) := ordTo_no (j := q + 1) (by rw [HNX.out]; simp [adj, ht, hk]) (by have := HL.out; omega)
          have t4 : (x.k == 1) = true := by simp [hk]
          clear ht hk
          go_wp2
          go_region
          all_goals
            go_wp2
            go_ret
            exact ⟨by rw [hno.out]; rfl, ((HH.out.drew.alloc _).alloc _)⟩
        · have hyes : Hid (ordTo L (q + 1) = true) := show _ = _ by rw [HNX.out]; simp [adj, ht, hk]
          have t4 : (x.k == 1) = false := by simp [hk]
          clear ht hk
          go_wp2
          go_region
          all_goals
            go_wp2
            go_roundw
            case rel => exact ⟨q + 1, by go_num, .inr (by omega), hyes.out, ((HH.out.drew.alloc _).alloc _)⟩
            case measure => (simp [intOf]) <;> omega
      · have hyes : Hid (ordTo L (q + 1) = true) := show _ = _ by rw [HNX.out]; simp [adj]; omega
        have t1 : ((y.t : Int) == x.t) = false := by simp; omega
        have t2 : decide (y.t < x.t) = false := by simp; omega
        have t3 : decide ((y.t : Int) < x.t) = false := by simp; omega
        clear ht
        go_wp2
        go_region
        all_goals
          go_wp2
          go_roundw
          case rel => exact ⟨q + 1, by go_num, .inr (by omega), hyes.out, ((HH.out.drew.alloc _).alloc _)⟩
          case measure => (simp [intOf]) <;> omega
    · have hyes : Hid (ord L = true) := show _ = _ by
        unfold ord
        rw [HL.out, show n - 1 = q by omega]; exact HO.out
      clear hh
      go_wp2
      go_ret
      exact ⟨by rw [hyes.out]; rfl, HH.out⟩
end Enc
end Go.Proofs.YtdacgdokbfcgdaaGreat

namespace Go.Proofs.YtdacgdokbfcgdaaGreat
open Go.RowKit Go.BigFrame Go.Sort
namespace Enc
open Lgc Lg Strs
def EncTo (r : List UInt8 × Int) (w : World) (e : Ending) (w' : World) : Prop := e = .returned (.tuple #[.string ⟨r.1.toArray⟩, .int .i64 r.2]) ∧ Held w w'
theorem EncTo.mk {r : List UInt8 × Int} {w w' : World} {s : ByteArray} {c : Int} (h : r = (s.data.toList, c)) (hh : Held w w') : EncTo r w (.returned (.tuple #[.string s, .int .i64 c])) w' := by
  subst h; exact ⟨by rw [← str_mk (s := s) rfl], hh⟩
/-- A box that holds an entry. -/
def BoxE (q : Nat) (x : Ent) (w : World) : Prop := w.heap[q]? = some (.cells #[.int .u64 (x.t : Int), .int .i64 x.k, .int .u32 x.n, .string x.d] 68 (0, 0))
theorem BoxE.cells {q : Nat} {x : Ent} {w : World} (h : BoxE q x w) : w.cell? ⟨q, 0, none⟩ = some (.int .u64 (x.t : Int)) ∧ w.cell? ⟨q, 1, none⟩ = some (.int .i64 x.k) ∧ w.cell? ⟨q, 2, none⟩ = some (.int .u32 x.n) ∧ w.cell? ⟨q, 3, none⟩ = some (.string x.d) :=
  ⟨box_cell h 0 rfl, box_cell h 1 rfl, box_cell h 2 rfl, box_cell h 3 rfl⟩
theorem BoxE.held {q : Nat} {x : Ent} {w w' : World} (h : BoxE q x w) (k : Held w w') : BoxE q x w' := (k.block q (box_lt h)).trans h
theorem BoxE.kept {q b : Nat} {x : Ent} {w w' : World} (h : BoxE q x w) (k : Bld.Kept b w w') (hb : q ≠ b) : BoxE q x w' := k.box h hb (by decide)
theorem BoxE.new (x : Ent) (w : World) : BoxE w.heap.size x (w.alloc (.cells #[.int .u64 (x.t : Int), .int .i64 x.k, .int .u32 x.n, .string x.d] 68)) := box_new _ _
theorem all_next (L : List Ent) (k : Nat) (h : k < L.length) : (L.take (k + 1)).all okX = ((L.take k).all okX && okX L[k]) := by
  rw [take_next L k h, List.all_append]; simp
theorem all_no {L : List Ent} {k : Nat} (h : (L.take k).all okX = false) : L.all okX = false := by
  cases hh : L.all okX
  · rfl
  · rw [List.all_eq_true] at hh
    rw [List.all_eq_false] at h
    obtain ⟨x, hx, hn⟩ := h
    exact absurd (hh x (List.mem_of_mem_take hx)) hn
theorem enc_long {L : List Ent} {f : Nat} (h : 400 < L.length) : encode L f = ([], 1902) := if_pos h
theorem enc_form {L : List Ent} {f : Nat} (h : ¬ 400 < L.length) (h2 : L.all okX = false) : encode L f = ([], 1900) := by unfold encode; rw [if_neg h, if_pos h2]
theorem enc_order {L : List Ent} {f : Nat} (h : ¬ 400 < L.length) (h2 : L.all okX = true) (h3 : (!ord L || early L f) = true) : encode L f = ([], 1901) := by unfold encode; rw [if_neg h, if_neg (by simp [h2]), if_pos h3]
theorem enc_big {L : List Ent} {f : Nat} (h : ¬ 400 < L.length) (h2 : L.all okX = true) (h3 : (!ord L || early L f) = false) (h4 : 65536 < (Uv.put L.length ++ encF f L).length) : encode L f = ([], 1902) := by unfold encode; rw [if_neg h, if_neg (by simp [h2]), if_neg (by simp [h3]), if_pos h4]
theorem enc_yes {L : List Ent} {f : Nat} (h : ¬ 400 < L.length) (h2 : L.all okX = true) (h3 : (!ord L || early L f) = false) (h4 : ¬ 65536 < (Uv.put L.length ++ encF f L).length) : encode L f = (Uv.put L.length ++ encF f L, 0) := by unfold encode; rw [if_neg h, if_neg (by simp [h2]), if_neg (by simp [h3]), if_neg h4]
set_option maxHeartbeats 4000000 in
/-- The part behind the tests: the loop that writes. -/
theorem encode_any (A : Option Addr) (n cap : Nat) (L : List Ent) (f : Nat) (w : World) (h : Sl 4 entC w A n L) (hn : n ≤ 1000000) (hx : ∀ x ∈ L, EntOK x) (hf : (f : Int) ≤ 18446744073709551615) :
    Calls Tryz.prog 10 #[.slice A n cap, .int .u64 f] w (EncTo (encode L f) w) := by
  have HS := Lib.hid h
  have HX := Lib.hid hx
  have HL := Lib.hid h.1
  have hl := h.1
  clear h hx
  by_cases h4 : (400 : Int) < n
  · have HE := Lib.hid (enc_long (f := f) (L := L) (by omega))
    clear hl
    go_enter Tryz.func10, Tryz.ntmps10
    go_wp2
    go_ret2
    exact EncTo.mk HE.out (Held.refl _)
  · have HN : Hid (¬ 400 < L.length) := by show ¬ _; omega
    clear hl
    go_enter Tryz.func10, Tryz.ntmps10
    go_wp2
    go_loopw [16] (fun i wr => ∃ k : Nat, i = .int .i64 k ∧ k ≤ n ∧ (L.take k).all okX = true ∧ Held w wr) (fun i _ => n - (intOf i).toNat)
    case atStart => exact ⟨0, rfl, Nat.zero_le _, rfl, Held.refl _⟩
    case round =>
      obtain ⟨k, rfl, hk, ho, hh⟩ := hrel
      have HO := Lib.hid ho
      have HH := Lib.hid hh
      clear ho
      by_cases hlt : (k : Int) < n
      · obtain ⟨b, off, x, rfl, hb, hx1, hc1⟩ := HS.out.at_ hh (k := k) (by omega)
        have x0 := hc1 0 _ rfl
        have x1 := hc1 1 _ rfl
        have x2 := hc1 2 _ rfl
        have x3 := hc1 3 _ rfl
        rw [Nat.add_zero] at x0
        have hkL : k < L.length := by have := HL.out; omega
        have hxe : L[k] = x := by rw [List.getElem?_eq_getElem hkL] at hx1; injection hx1
        have hn1 := all_next L k hkL
        rw [hxe, HO.out, Bool.true_and] at hn1
        have hxo : EntOK x := HX.out x (hxe ▸ List.getElem_mem hkL)
        have HNX := Lib.hid hn1
        have HV := Lib.hid (fun w => Ev.valid_any x.k x.n x.d hxo.k1 hxo.k2 hxo.n1 hxo.n2 hxo.d w)
        clear hc1 hx1 hxe hn1 hh hkL hxo
        obtain ⟨v, hv⟩ : ∃ v, Ev.ok x.k x.n x.d.data.toList = v := ⟨_, rfl⟩
        rw [hv] at HV
        have HVX : Hid (okX x = v) := hv
        clear hv
        cases v
        · have HE := Lib.hid (enc_form (f := f) HN.out (all_no (by rw [HNX.out]; exact HVX.out)))
          go_wp2_with (go_at_call 21; refine (HV.out _).mono ?_; rintro e w1 ⟨rfl, h1⟩)
          go_ret2
          exact EncTo.mk HE.out ((HH.out.alloc _).step h1)
        · go_wp2_with (go_at_call 21; refine (HV.out _).mono ?_; rintro e w1 ⟨rfl, h1⟩)
          go_roundw
          case rel => exact ⟨k + 1, by go_num, by omega, HNX.out.trans HVX.out, (HH.out.alloc _).step h1⟩
          case measure => (simp [intOf]) <;> omega
      · obtain rfl : k = n := by omega
        have HA : Hid (L.all okX = true) := show _ = _ by have := HO.out; rw [← HL.out, List.take_length] at this; exact this
        clear hh HO
        have HOR := Lib.hid (fun cap w' (q : Held w w') => ord_any A k cap L w' (HS.out.held q) (by omega) HX.out)
        go_upto_region 9 with fail
        go_cut [40] (fun v wx => v = .bool (!ord L || early L f) ∧ Held w wx)
        case first =>
          obtain ⟨o, ho⟩ : ∃ o, ord L = o := ⟨_, rfl⟩
          rw [ho] at HOR
          have HHO := Lib.hid ho
          clear ho
          cases o
          · go_wp2_with (go_at_call 22; refine (HOR.out _ _ HH.out).mono ?_; rintro e w1 ⟨rfl, h1⟩)
            go_meet
            exact ⟨by rw [HHO.out]; rfl, HH.out.step h1⟩
          · by_cases hk0 : k = 0
            · have he : Hid (early L f = false) := show _ = _ by
                have : L = [] := List.eq_nil_of_length_eq_zero (by have := HL.out; omega)
                subst this; rfl
              have d1 : decide ((0 : Int) < k) = false := by simp; omega
              have d1n : decide (0 < k) = false := by simp; omega
              clear hk0
              go_wp2_with (go_at_call 22; refine (HOR.out _ _ HH.out).mono ?_; rintro e w1 ⟨rfl, h1⟩)
              go_meet
              exact ⟨by rw [HHO.out, he.out]; rfl, HH.out.step h1⟩
            · obtain ⟨b, off, x, rfl, hb, hx1, hc1⟩ := HS.out.at_ (Held.refl w) (k := 0) (by omega)
              have x0 := hc1 0 _ rfl
              simp only [Nat.zero_mul, Nat.add_zero] at x0
              have he : Hid (early L f = decide (x.t < f)) := show _ = _ by unfold early; rw [hx1]
              have d1 : (0 : Int) < k := by omega
              have d1n : 0 < k := by omega
              clear hk0 hc1 hx1
              have X0 := Lib.hid (fun w' (q : Held w w') => q.cell x0)
              clear x0
              by_cases hlt2 : x.t < f
              · have e1 : (x.t : Int) < f := by omega
                go_wp2_with (go_at_call 22; refine (HOR.out _ _ HH.out).mono ?_; rintro e w1 ⟨rfl, h1⟩; have x0 := X0.out _ (HH.out.step h1))
                go_meet
                exact ⟨by rw [HHO.out, he.out]; simp [hlt2], HH.out.step h1⟩
              · have e2 : decide (x.t < f) = false := by simp; omega
                have e1 : decide ((x.t : Int) < f) = false := by simp; omega
                go_wp2_with (go_at_call 22; refine (HOR.out _ _ HH.out).mono ?_; rintro e w1 ⟨rfl, h1⟩; have x0 := X0.out _ (HH.out.step h1))
                go_meet
                exact ⟨by rw [HHO.out, he.out]; simp [hlt2], HH.out.step h1⟩
        case rest =>
          obtain ⟨rfl, hhx⟩ := hcut
          clear HOR HH
          have HH := Lib.hid hhx
          clear hhx
          obtain ⟨o, ho⟩ : ∃ o, (!ord L || early L f) = o := ⟨_, rfl⟩
          rw [ho]
          cases o
          · have HHO := Lib.hid ho
            clear ho
            have hor : ord L = true ∧ early L f = false := by have := HHO.out; simpa using this
            have HOE := Lib.hid hor
            clear hor
            have hpk := Uv.put_len k (by omega)
            have HP := Lib.hid (fun w => put_any k (by omega) w)
            have HLK : Hid (Uv.put L.length = Uv.put k) := show _ = _ by rw [HL.out]
            generalize Uv.put k = pk at hpk HP HLK
            have B0 := Lib.hid (Bld.Is.new wc)
            have hb0 : Hid (w.heap.size ≤ wc.heap.size) := HH.out.le
            go_wp2_with fail
            refine (HP.out _).mono ?_
            rintro e w1 ⟨rfl, h1⟩
            have B1 := Lib.hid (B0.out.held h1)
            have W1 := Lib.hid ((HH.out.alloc (.cells #[.pointer none, .slice none 0 0] 76)).step h1)
            have hs1 : wc.heap.size < w1.heap.size := by have := h1.size; simp at this; omega
            clear h1 HP B0
            generalize wc.heap.size = bb at hb0 B1 hs1 ⊢
            have hl1 := ba_size pk
            go_wp2_with fail
            refine (Bld.write_any bb [] _ w1 B1.out (by rw [hl1]; simp; omega) (by omega)).mono ?_
            rintro e w2 ⟨rfl, i2, k2⟩
            have i3 : Bld.Is bb (pk ++ encF f (L.take 0)) w2 := by simpa [encF] using i2
            have I2 := Lib.hid i3
            have W2 := Lib.hid (k2.heldOf W1.out hb0.out)
            have hs2 : bb < w2.heap.size := by have := k2.1.size; omega
            clear i2 k2 B1 W1 hs1 hl1 HH i3
            go_wp2
            go_loopw [1, 48] (fun lt i wr => ∃ q : Nat, i = .int .i64 q ∧ q ≤ k ∧ lt = .int .u64 (lastT f (L.take q) : Nat) ∧ Bld.Is bb (pk ++ encF f (L.take q)) wr ∧ Held w wr ∧ bb < wr.heap.size) (fun _ i _ => k - (intOf i).toNat)
            case atStart => exact ⟨0, rfl, Nat.zero_le _, rfl, I2.out, W2.out, hs2⟩
            case round =>
              obtain ⟨q, rfl, hq, rfl, hi, hh, hs3⟩ := hrel
              have HI := Lib.hid hi
              have HH := Lib.hid hh
              have hel : (encF f (L.take q)).length ≤ 168 * q := by
                have := encF_len (L := L.take q) (fun y hy => ⟨HX.out y (List.mem_of_mem_take hy), by have h9 := HA.out; rw [List.all_eq_true] at h9; exact h9 y (List.mem_of_mem_take hy)⟩) f
                rw [List.length_take] at this
                omega
              clear hi
              by_cases hlt2 : (q : Int) < k
              · obtain ⟨b, off, x, rfl, hb, hx1, hc1⟩ := HS.out.at_ hh (k := q) (by omega)
                have x0 := hc1 0 _ rfl
                have x1 := hc1 1 _ rfl
                have x2 := hc1 2 _ rfl
                have x3 := hc1 3 _ rfl
                rw [Nat.add_zero] at x0
                have hqL : q < L.length := by have := HL.out; omega
                have hxe : L[q] = x := by rw [List.getElem?_eq_getElem hqL] at hx1; injection hx1
                have hxm : x ∈ L := hxe ▸ List.getElem_mem hqL
                have hxo := HX.out x hxm
                have hxk : okX x = true := by have h9 := HA.out; rw [List.all_eq_true] at h9; exact h9 x hxm
                obtain ⟨k1, k6, kd⟩ := ok_bd hxk
                have hle := last_le HOE.out.1 HOE.out.2 hqL
                have hln := lastT_next L f q hqL
                have hen := encF_next L f q hqL
                rw [hxe] at hle hln hen
                have hxt := hxo.t
                have hxn := hxo.n1
                have hxn2 := hxo.n2
                clear hxm hxo hxk hxe hx1 hc1 hh
                obtain ⟨t, kk, nn, d⟩ := x
                simp only at x0 x1 x2 x3 k1 k6 kd hle hln hen hxt hxn hxn2
                obtain ⟨kk, rfl⟩ := Int.eq_ofNat_of_zero_le (show 0 ≤ kk by omega)
                obtain ⟨nn, rfl⟩ := Int.eq_ofNat_of_zero_le hxn
                rw [len_eq] at kd
                generalize lastT f (L.take q) = lt at hle hen ⊢
                have HLN := Lib.hid hln
                have HEN := Lib.hid hen
                have hsub : IntKind.u64.wrap ((t : Int) - (lt : Int)) = ((t - lt : Nat) : Int) := by
                  rw [IntWalk.u64_in _ (by omega)]; omega
                have HP := Lib.hid (fun w => put_any (t - lt) (by omega) w)
                have hpl := Uv.put_len (t - lt) (by omega)
                have hpz := ba_size (Uv.put (t - lt))
                have HPZ := Lib.hid hpz
                have HQ := Lib.hid (fun w => encodeEvent_any kk nn d (by omega) (by omega) (by omega) kd w)
                have hql := encE_len (k := kk) (n := nn) (d := d.data.toList) (by omega) (by omega) (by omega) (by omega) (by rw [len_eq]; exact kd)
                have hcl : (pk ++ encF f (L.take q)).length ≤ 70000 := by rw [List.length_append]; omega
                have hcl2 : Hid ((pk ++ encF f (L.take q)).length + (Uv.put (t - lt)).length ≤ 80000) := show _ ≤ _ by omega
                have BX : Hid (BoxE wr.heap.size ⟨t, kk, nn, d⟩ (wr.alloc (.cells #[.int .u64 (t : Int), .int .i64 kk, .int .u32 nn, .string d] 68))) := BoxE.new ⟨t, kk, nn, d⟩ wr
                clear hln hen hpz
                go_wp2_with fail
                refine (HP.out _).mono ?_
                rintro e w3 ⟨rfl, h3⟩
                have B3 := Lib.hid (HI.out.held (Held.step ((Held.refl wr).alloc _) h3))
                have X3 := Lib.hid (BX.out.held h3)
                have W3 := Lib.hid ((HH.out.alloc (.cells #[.int .u64 (t : Int), .int .i64 kk, .int .u32 nn, .string d] 68)).step h3)
                have hs4 : bb < w3.heap.size := by have := h3.size; simp at this; omega
                have hnb : Hid (¬ wr.heap.size = bb) := by show ¬ _; omega
                obtain ⟨z0, z1, z2, z3⟩ := X3.out.cells
                clear h3 HP BX hsub
                go_wp2_with fail
                refine (Bld.write_any bb _ _ w3 B3.out (by rw [HPZ.out]; omega) (by omega)).mono ?_
                rintro e w4 ⟨rfl, i4, k4⟩
                have B4 := Lib.hid i4
                have X4 := Lib.hid (X3.out.kept k4 hnb.out)
                have W4 := Lib.hid (k4.heldOf W3.out hb0.out)
                have hs5 : bb < w4.heap.size := by have := k4.1.size; omega
                clear z0 z1 z2 z3 i4 k4 B3 X3 W3
                obtain ⟨z0, z1, z2, z3⟩ := X4.out.cells
                go_wp2_with fail
                refine (HQ.out _).mono ?_
                rintro e w5 ⟨rfl, h5⟩
                have B5 := Lib.hid (B4.out.held h5)
                have W5 := Lib.hid (W4.out.step h5)
                have hs6 : bb < w5.heap.size := by have := h5.size; omega
                clear z0 z1 z2 z3 h5 B4 X4 W4
                go_wp2_with fail
                refine (Bld.write_any bb _ ⟨(encE kk nn d.data.toList).toArray⟩ w5 B5.out (by rw [ba_size]; have := hcl2.out; simp only [List.length_append] at this ⊢; omega) (by omega)).mono ?_
                rintro e w6 ⟨rfl, i6, k6'⟩
                have B6 : Hid (Bld.Is bb (pk ++ encF f (L.take (q + 1))) w6) := show Bld.Is _ _ _ by
                  rw [HEN.out]; simpa using i6
                have W6 := Lib.hid (k6'.heldOf W5.out hb0.out)
                have hs7 : bb < w6.heap.size := by have := k6'.1.size; omega
                clear i6 k6' B5 W5
                go_wp2
                go_roundw
                case rel => exact ⟨q + 1, by go_num, by omega, by rw [HLN.out], B6.out, W6.out, hs7⟩
                case measure => (simp [intOf]) <;> omega
              · obtain rfl : q = k := by omega
                have htk : L.take q = L := by rw [← HL.out, List.take_length]
                have hcl : (pk ++ encF f L).length ≤ 70000 := by rw [htk] at hel; rw [List.length_append]; omega
                rw [htk] at HI
                clear hh hel htk
                have hcc : Uv.put L.length ++ encF f L = pk ++ encF f L := by rw [HLK.out]
                by_cases h65 : 65536 < (pk ++ encF f L).length
                · have HE := Lib.hid (enc_big (f := f) HN.out HA.out (by simp [HOE.out.1, HOE.out.2]) (by rw [hcc]; exact h65))
                  clear hcc
                  obtain ⟨r, hr⟩ : ∃ r, pk ++ encF f L = r := ⟨_, rfl⟩
                  rw [hr] at HI h65 hcl
                  have h65' : (65536 : Int) < r.length := by omega
                  clear hr
                  go_wp2_with fail
                  refine (Bld.len_any bb r wr HI.out).mono ?_
                  rintro e w3 ⟨rfl, rfl⟩
                  go_wp2
                  go_ret2
                  exact EncTo.mk HE.out HH.out
                · have HE := Lib.hid (enc_yes (f := f) HN.out HA.out (by simp [HOE.out.1, HOE.out.2]) (by rw [hcc]; exact h65))
                  rw [hcc] at HE
                  clear hcc
                  obtain ⟨r, hr⟩ : ∃ r, pk ++ encF f L = r := ⟨_, rfl⟩
                  rw [hr] at HI HE h65 hcl
                  have h65' : ¬ (65536 : Int) < r.length := by omega
                  clear hr
                  go_wp2_with fail
                  refine (Bld.len_any bb r wr HI.out).mono ?_
                  rintro e w3 ⟨rfl, rfl⟩
                  go_wp2_with fail
                  refine (Bld.string_any bb r _ HI.out (by omega)).mono ?_
                  rintro e w4 ⟨rfl, i4, k4⟩
                  have W4 := Lib.hid (k4.heldOf HH.out hb0.out)
                  clear i4 k4
                  go_wp2
                  go_ret2
                  exact EncTo.mk (by rw [HE.out]) W4.out
          · have HE := Lib.hid (enc_order HN.out HA.out ho)
            clear ho
            go_wp2
            go_ret2
            exact EncTo.mk HE.out HH.out
end Enc
end Go.Proofs.YtdacgdokbfcgdaaGreat
