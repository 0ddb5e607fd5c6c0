/-
  The walk of EventlogParts.
-/
import Derived.Test.YtdacgdokbfcgdaaGreatW20
import Derived.Test.YtdacgdokbfcgdaaGreatWxDcD
set_option linter.unusedVariables false
set_option linter.unusedSimpArgs false
set_option maxRecDepth 100000
namespace Go.Proofs.YtdacgdokbfcgdaaGreat
open Go.RowKit Go.BigFrame Go.Sort Go.Lib
namespace Ma
open Enc (Ent entC EntOK okX ord ordTo adj)
theorem ordTo_iff (L : List Ent) : ∀ k, ordTo L k = true ↔ ∀ i, i < k → ∀ x y, L[i]? = some x → L[i + 1]? = some y → adj x y = false
  | 0 => ⟨fun _ i h => absurd h (Nat.not_lt_zero i), fun _ => rfl⟩
  | k + 1 => by
    unfold Enc.ordTo
    rw [Bool.and_eq_true, ordTo_iff L k]
    constructor
    · rintro ⟨h1, h2⟩ i hi x y hx hy
      rcases Nat.lt_or_eq_of_le (Nat.le_of_lt_succ hi) with h | rfl
      · exact h1 i h x y hx hy
      · rw [hx, hy] at h2
        simpa using h2
    · intro h
      refine ⟨fun i hi => h i (by omega), ?_⟩
      cases e1 : L[k]? with
      | none => rfl
      | some x =>
        cases e2 : L[k + 1]? with
        | none => rfl
        | some y => simp [h k (Nat.lt_succ_self k) x y e1 e2]
theorem ord_all {L : List Ent} (h : ord L = true) (i : Nat) (x y : Ent) (hx : L[i]? = some x) (hy : L[i + 1]? = some y) : adj x y = false := by
  have hl := (List.getElem?_eq_some_iff.1 hy).1
  exact (ordTo_iff L _).1 h i (by omega) x y hx hy
theorem ord_of {L : List Ent} (h : ∀ i x y, L[i]? = some x → L[i + 1]? = some y → adj x y = false) : ord L = true :=
  (ordTo_iff L _).2 fun i _ x y hx hy => h i x y hx hy
theorem LogI.take {L : List Ent} {c0 c : Nat} (h : LogI L c0 c) (k : Nat) : LogI (L.take k) c0 c := by
  refine ⟨fun x hx => h.ok x (List.mem_of_mem_take hx), fun x hx => h.lo x (List.mem_of_mem_take hx), fun x hx => h.clk x (List.mem_of_mem_take hx), ord_of fun i x y hx hy => ?_⟩
  rw [List.getElem?_take] at hx hy
  split at hx
  · split at hy
    · exact ord_all h.ord i x y hx hy
    · cases hy
  · cases hx
theorem LogI.drop {L : List Ent} {c0 c : Nat} (h : LogI L c0 c) (k : Nat) : LogI (L.drop k) c0 c := by
  refine ⟨fun x hx => h.ok x (List.mem_of_mem_drop hx), fun x hx => h.lo x (List.mem_of_mem_drop hx), fun x hx => h.clk x (List.mem_of_mem_drop hx), ord_of fun i x y hx hy => ?_⟩
  rw [List.getElem?_drop] at hx hy
  exact ord_all h.ord (k + i) x y hx hy
end Ma
namespace Lw
open Enc (Ent entC EntOK okX encode decL Dec DecTo EncTo entC_len entC_one encF)
open Ma (nC machine_any MachTo play_any PlayTo same_any SameTo entAt LogI mc_size mc_one mc_dv mc_x z49 z52 uMac sMac sRec uRec HX1_of row_one logR queR mcA memS recX)
open Opn (nZ few_any)
/-- l[:j] and l[j:] of whatever reads as a list. -/
theorem cut_to {α : Type} {s : Nat} {f : α → List Value} {P : Program} {t e : TypeId} {i0 : TypeInfo} (ht : P.underlying t = some (.slice e)) (hi : P.info? e = some i0) (hs : i0.size = s) {w : World} {A : Option Addr} {n : Nat} {L : List α} (h : Sl s f w A n L) (cap j : Nat) (hj : j ≤ n) (hn : n ≤ cap) :
    ∃ A2, (∀ w', (Instr.slice t (.slice A n cap) none (some (.int .i64 j)) none).run P w' = .ok (.slice A2 j cap) w') ∧ Sl s f w A2 j (L.take j) := by
  subst hs
  refine ⟨if cap = 0 then A else A.map (·.add (0 * i0.size)), fun w' => ?_, ?_⟩
  · have h1 : (j : Int) ≤ cap := by omega
    simp [Instr.slice, run_underlying ht, Instr.sliceBounds, Instr.sliceBound, asIntOf, sizeOf, typeInfo, hi, h1]
    intro h9; omega
  · have h0 := h.take hj
    rcases h0.2 with e | ⟨b, off, rfl, hb, hc⟩
    · exact ⟨h0.1, .inl e⟩
    · have : (if cap = 0 then (some ⟨b, off, none⟩ : Option Addr) else (some ⟨b, off, none⟩ : Option Addr).map (·.add (0 * i0.size))) = some ⟨b, off, none⟩ := by
        split
        · rfl
        · simp [addr_add]
      rw [this]; exact h0
theorem cut_from {α : Type} {s : Nat} {f : α → List Value} {P : Program} {t e : TypeId} {i0 : TypeInfo} (ht : P.underlying t = some (.slice e)) (hi : P.info? e = some i0) (hs : i0.size = s) {w : World} {A : Option Addr} {n : Nat} {L : List α} (h : Sl s f w A n L) (cap j : Nat) (hj : j ≤ n) (hn : n ≤ cap) :
    ∃ A2, (∀ w', (Instr.slice t (.slice A n cap) (some (.int .i64 j)) none none).run P w' = .ok (.slice A2 (n - j) (cap - j)) w') ∧ Sl s f w A2 (n - j) (L.drop j) := by
  subst hs
  refine ⟨if cap = j then A else A.map (·.add (j * i0.size)), fun w' => ?_, ?_⟩
  · have h1 : (j : Int) ≤ n := by omega
    simp [Instr.slice, run_underlying ht, Instr.sliceBounds, Instr.sliceBound, asIntOf, sizeOf, typeInfo, hi, h1]
    intro h9; omega
  · rcases h.2 with e | ⟨b, off, rfl, hb, hc⟩
    · exact ⟨by rw [List.length_drop, h.1], .inl (by omega)⟩
    · by_cases e : cap = j
      · exact ⟨by rw [List.length_drop, h.1], .inl (by omega)⟩
      · have : (if cap = j then (some ⟨b, off, none⟩ : Option Addr) else (some ⟨b, off, none⟩ : Option Addr).map (·.add (j * i0.size))) = some ⟨b, off + j * i0.size, none⟩ := by
          rw [if_neg e]; simp [addr_add]
        rw [this]; exact h.drop hj
theorem wpo_cat {W w : World} {H : List Ck} (h : Mem W w H) (i : Nat) {α : Type} {e : TypeId} {s : Nat} {f : α → List Value} {A0 : Option Addr} {n cap0 : Nat} {L : List α} (hi : H[i]? = some (.row e s f W.heap.size (.slice A0 n cap0) L)) {P : Program} {o : Oper} {a : Act} {K : Act → World → Prop} {Q : Exit → Act → World → Prop} (sl x : Operand) (t : TypeId)
    (ho : o.op = .call { callee := .builtin .append, args := #[sl, x], argTypes := #[t, t] }) (z : Value) (bytes : Nat) (ht : P.underlying t = some (.slice e)) (hinfo : (P.info? e).map (fun i => (i.zero, i.size, i.bytes)) = some (some z, s, bytes))
    (hzs : z.cells.size = s) (hs0 : 0 < s) (hf : ∀ x, (f x).length = s) (hf1 : ∀ x, ∀ u ∈ f x, u.oneCell' = true) (M : List α) (A : Option Addr) (m c : Nat)
    (hs : a.eval sl = .slice A0 n cap0) (hx : a.eval x = .slice A m c) (hsl : Sl s f w A m M) (hn : L.length = n) (hb : (n + m) * bytes ≤ 140737488355328) (hb1 : 1 ≤ bytes)
    (k : ∀ A' cap' w', Mem W w' (H.set i (.row e s f W.heap.size (.slice A' (n + m) cap') (L ++ M))) → (A' = none → A0 = none) → K (a.put o.dst (.slice A' (n + m) cap')) w') :
    Oper.wp P o a w K Q := by
  obtain ⟨A', cap', w', hr, hM, hA⟩ := h.cat_run i hi (P := P) o.type t z bytes ht hinfo hzs hs0 hf hf1 M A m c hsl hn hb hb1
  unfold Oper.wp execOp
  simp only [ho, resolve, invoke, builtin, Sem.run_bind, Sem.run_pure, Result.andThen_ok, List.map_toArray, List.map_cons, List.map_nil, hs, hx, hr]
  exact k A' cap' w' hM hA
def Coded (L : List Ent) (f : Nat) (s : ByteArray) : Prop := encode L f = (s.data.toList, 0) ∧ s.size ≤ 65536
theorem coded_of {L : List Ent} {f c0 c : Nat} (h : LogI L c0 c) (hn : L.length ≤ 331) (hf : ∀ x, L[0]? = some x → f ≤ x.t) : ∃ s, Coded L f s := by
  have h1 := enc_log h hn hf
  refine ⟨⟨(Uv.put L.length ++ encF f L).toArray⟩, h1, ?_⟩
  have := (Enc.encode_ok h1).le
  simpa [ByteArray.size] using this
theorem enc_cod {L : List Ent} {f : Nat} {s : ByteArray} (h : Coded L f s) (A : Option Addr) (n cap : Nat) (w : World) (hL : Sl 4 entC w A n L) (hn : n ≤ 331) (hok : ∀ x ∈ L, EntOK x) (hf : f ≤ 18446744073709551615) :
    Calls Tryz.prog 10 #[.slice A n cap, .int .u64 f] w fun e w' => e = .returned (.tuple #[.string s, .int .i64 0]) ∧ Held w w' := by
  have := Enc.encode_any A n cap L f w hL (by omega) hok (by omega)
  unfold EncTo at this
  rw [h.1] at this
  exact this
def BackTo (L : List Ent) (n : Nat) (w : World) (e : Ending) (w' : World) : Prop := ∃ A cap, e = .returned (.tuple #[.slice A n cap, .int .i64 0]) ∧ Own 68 4 entC w.heap.size w' (.slice A n cap) L ∧ Held w w'
theorem dec_cod {L : List Ent} {f n : Nat} {s : ByteArray} (h : Coded L f s) (hok : ∀ x ∈ L, EntOK x) (hn : L.length = n) (hf : f ≤ 18446744073709551615) (w : World) : Calls Tryz.prog 14 #[.string s, .int .u64 f] w (BackTo L n w) := by
  have hd : decL s.data.toList f = (L, 0) := Enc.decL_of ⟨hok, h.1⟩
  have := Enc.decode_any s f (by have := h.2; omega) (by omega) w
  unfold DecTo at this
  rw [hd] at this
  refine this.mono ?_
  rintro e w' ⟨A, cap, rfl, ho, hh, _, _⟩
  dsimp only at ho
  subst hn
  exact ⟨A, cap, rfl, ho, hh⟩
set_option maxHeartbeats 8000000 in
theorem parts_law (kind : Int) (A1 : Option Addr) (n1 c1 : Nat) (L1 : List Int) (A2 : Option Addr) (n2 c2 : Nat) (L2 : List Int) (at_ : Int)
    (wk : (Lit.int .i64 kind).wf = true) (wa : (Lit.int .i64 at_).wf = true) (W : World)
    (g1 : Sl 1 nZ W A1 n1 L1 ∧ n1 ≤ maxLen) (g2 : Sl 1 nZ W A2 n2 L2 ∧ n2 ≤ maxLen) :
    Calls Tryz.prog 6 #[.int .i64 kind, .slice A1 n1 c1, .slice A2 n2 c2, .int .i64 at_] W (LawTo W) := by
  have bk := Rw.bd_i64 wk
  have ba := Rw.bd_i64 wa
  have HAW := Lib.hid fun w => Enc.awake_any w
  by_cases hfew : n1 ≤ 40 ∧ n2 ≤ 30
  · have HF := Lib.hid fun w => few_any A1 A2 n1 n2 c1 c2 true (by rw [decide_eq_true hfew.1, decide_eq_true hfew.2]; rfl) w
    have HM := Lib.hid fun (w' : World) (h : Held W w') => machine_any kind bk A1 n1 c1 L1 w' (Sl.held g1.1 h) hfew.1
    have HL2 := Lib.hid g2.1
    have HN2 := Lib.hid hfew.2
    unfold MachTo at HM
    clear g1 g2 wk wa hfew
    go_enter Tryz.func6, Tryz.ntmps6
    go_wp2_with fail
    refine (HF.out _).mono ?_
    rintro e w1 ⟨rfl, h1⟩
    go_wp2_with fail
    refine (HM.out _ h1).mono ?_
    rintro e w2 ⟨C, A, n, cap, d, M, rfl, hS, hd, hcn, hMs, h2⟩
    have H2 := Lib.hid (h1.step h2)
    have HCL := Lib.hid hS.cpu.len
    have hd0 := hd.cnt
    obtain ⟨c0, hc0⟩ : ∃ c0 : Nat, d.cnt = (c0 : Int) := ⟨d.cnt.toNat, by omega⟩
    have HP := Lib.hid fun (w' : World) (h : Held w2 w') => play_any C A n cap d M A2 n2 c2 L2 hS hd (by omega) HN2.out w' (hMs.held h) (HL2.out.held (H2.out.step h))
    unfold PlayTo at HP
    have M2 := Lib.hid ((Mem.start w2).allocF (b := w2.heap.size) rfl z49 57)
    have hc0' : c0 ≤ 200 := by omega
    clear hS hd hcn hMs h1 h2 HM HF
    go_upto_region 4 with (show wpList _ _ _ ((⟨_, Op.store 57 _ _, _, _, _, _⟩ : Oper) :: _) _ _; refine Mem.go_storeAll 57 rfl rfl rfl rfl 0 M2.out rfl (by rw [mc_size HCL.out]; exact sMac) (by first | (rw [mc_size HCL.out]; done) | (rw [mc_size HCL.out]; rfl) | (rw [mc_size HCL.out, mc_size HCL.out]; done) | (rw [mc_size HCL.out, mc_size HCL.out]; rfl)) (mc_one _ rfl _ (fun v hv => by cases hv)) ?_; intro w3 MM'; (try simp only [List.set_cons_zero, List.set_cons_succ] at MM'); have M3 := Lib.hid MM'; clear MM')
    have HP4 := Lib.hid (HP.out _ M3.out.held)
    go_wp2_with (show wpList _ _ _ ((⟨_, Op.load 57 _, _, _, _, _⟩ : Oper) :: _) _ _; refine Mem.go_loadAll 57 rfl rfl rfl 0 M3.out rfl uMac (by rw [mc_size HCL.out]; exact sMac) ?_)
    refine HP4.out.mono ?_
    rintro e w4 ⟨C', g, d', clk', lv, qv, vo, LL, QL, LO, M', rfl, hPl, h4⟩
    have M4 : Hid (Mem w2 _ [.box w4.heap.size z52 61, logR w2.heap.size lv LL, queR w2.heap.size qv QL, .box w2.heap.size (mcA C (.slice A n cap) d []) 57]) := Lib.hid (((((M3.out.joinF h4).rebaseR 1 rfl M3.out.le).rebaseR 2 rfl M3.out.le).allocF (b := w4.heap.size) rfl z52 61).pick [0, 2, 3, 5] (by decide) rfl)
    have HR1 := Lib.hid (row_one (h4.row 1 rfl))
    have HR2 := Lib.hid (row_one (h4.row 2 rfl))
    have HC2 := Lib.hid hPl.st.cpu.len
    have hlog : LogI LL c0 d'.cnt.toNat := by
      have := hPl.log
      rw [hc0, Int.toNat_natCast] at this
      exact this
    have HLG := Lib.hid hlog
    have hln := hPl.len.1
    have hcn' := hPl.cnt
    have HLN : Hid (LL.length ≤ 331) := Lib.hid (by have := HN2.out; exact Nat.le_trans hln (by omega))
    obtain ⟨c9, hc9⟩ : ∃ c9 : Nat, d'.cnt = (c9 : Int) := ⟨d'.cnt.toNat, by omega⟩
    have hc9' : c9 ≤ 100000 := by have := HN2.out; omega
    have HX1 := Lib.hid (HX1_of clk' lv qv HR1.out HR2.out)
    clear hPl h4 HP HP4 hlog hln hcn' HN2 HL2
    dsimp only
    go_upto_region 5 with (show wpList _ _ _ ((⟨_, Op.store 61 _ _, _, _, _, _⟩ : Oper) :: _) _ _; refine Mem.go_storeAll 61 rfl rfl rfl rfl 0 M4.out rfl (by rw [mc_size HC2.out]; exact sRec) (by first | (rw [mc_size HC2.out]; done) | (rw [mc_size HC2.out]; rfl)) (mc_one _ rfl _ HX1.out) ?_; intro w5 MM'; (try simp only [List.set_cons_zero, List.set_cons_succ] at MM'); have M5 := Lib.hid MM'; clear MM')
    obtain ⟨nn, hnn⟩ : ∃ nn, LL.length = nn := ⟨_, rfl⟩
    obtain ⟨A3, c3, rfl, hc3, hm3⟩ := (M5.out.row 1 rfl).shape
    rw [hnn] at hc3 HLN M5
    have HN : Is LL.length nn := ⟨hnn⟩
    have hnn3 := HLN.out
    have x50 := M5.out.cell 0 rfl 50 (mc_x (X := [.int .u32 clk', .slice A3 nn c3, qv]) HC2.out (j := 1) rfl)
    have x46 := M5.out.cell 0 rfl 46 (mc_dv (mv := memS g n) (d := d') (X := [.int .u32 clk', .slice A3 nn c3, qv]) HC2.out (j := 20) (by decide) (v := .int .u64 (c9 : Int)) (by rw [← hc9]; rfl))
    have y46 := M5.out.cell 3 rfl 46 (mc_dv (mv := .slice A n cap) (d := d) (X := []) HCL.out (j := 20) (by decide) (v := .int .u64 (c0 : Int)) (by rw [← hc0]; rfl))
    have HSL := Lib.hid ((M5.out.row 1 rfl).reads entC_len).1
    have H5 := Lib.hid (H2.out.step M5.out.held)
    have HR := Lib.hid fun w => Mk.round_any at_ ((nn : Int) + 1) (by omega) (by omega) (by omega) (by omega) w
    have hbk := Mk.round_bd at_ ((nn : Int) + 1) (by omega)
    obtain ⟨rk, hrk⟩ : ∃ r, Mk.round at_ ((nn : Int) + 1) = r := ⟨_, rfl⟩
    rw [hrk] at HR hbk
    obtain ⟨k, rfl⟩ : ∃ k : Nat, rk = (k : Int) := ⟨rk.toNat, by omega⟩
    have hk : k ≤ nn := by omega
    clear hrk hnn HX1 HR1 HR2 hc0 hc9 hd0
    go_wp2_with fail
    refine (HR.out _).mono ?_
    rintro e w6 ⟨rfl, rfl⟩
    obtain ⟨sa, hsa⟩ := coded_of (HLG.out.take k) (by rw [List.length_take, HN.out]; omega) (f := c0) (fun x hx => ((HLG.out.take k).lo x (List.mem_of_getElem? hx)).1)
    have HSA := Lib.hid hsa
    clear hsa
    go_upto_if 49 with fail
    go_cut [13] (fun v13 wx => ∃ cut : Nat, v13 = .int .u64 (cut : Int) ∧ cut ≤ 18446744073709551615 ∧ (∀ x, (LL.drop k)[0]? = some x → cut ≤ x.t) ∧ Held w5 wx)
    case first =>
      by_cases hlt : k < nn
      · obtain ⟨lb, loff, x, rfl, hlb, hx, hc⟩ := HSL.out.at_ (Held.refl _) (k := k) hlt
        have d0 := hc 0 _ rfl
        rw [Nat.add_zero] at d0
        have z1 : (k : Int) < nn := by omega
        have z0 : (0 : Int) ≤ k := by omega
        have HX := Lib.hid hx
        have hxt := ((HLG.out.ok x (List.mem_of_getElem? hx)).1).t
        clear hc hx
        go_wp2_with fail
        go_meet
        case rel => exact ⟨x.t, rfl, by omega, fun y hy => by
          rw [List.getElem?_drop, Nat.add_zero, HX.out] at hy
          injection hy with hy
          rw [hy]; exact Nat.le_refl _, Held.refl _⟩
      · have z1 : ¬ (k : Int) < nn := by omega
        go_wp2_with fail
        go_meet
        case rel => exact ⟨c9, rfl, by omega, fun y hy => by
          rw [List.getElem?_drop] at hy
          have := (List.getElem?_eq_some_iff.1 hy).1
          rw [HN.out] at this
          omega, Held.refl _⟩
    case rest =>
      obtain ⟨cut, rfl, hcu, hcut0, hh5⟩ := hcut
      obtain ⟨sb, hsb⟩ := coded_of (HLG.out.drop k) (by rw [List.length_drop, HN.out]; omega) (f := cut) hcut0
      have HSB := Lib.hid hsb
      have M6 := Lib.hid (M5.out.keep hh5)
      have HSLc := Lib.hid (HSL.out.held hh5)
      have z50 := hh5.cell x50
      have z46 := hh5.cell y46
      have HBX := Lib.hid fun (w' : World) (h : Held wc w') => (⟨h.cell z50, h.cell z46⟩ : _ ∧ _)
      obtain ⟨i0, hi0, hz0, hz1, hz2⟩ := info_parts Ma.info_ent
      obtain ⟨AT, hT, hSlT⟩ := cut_to (P := Tryz.prog) Tryz.underlying25 hi0 hz1 HSLc.out c3 k hk hc3
      obtain ⟨AF, hF, hSlF⟩ := cut_from (P := Tryz.prog) Tryz.underlying25 hi0 hz1 HSLc.out c3 k hk hc3
      have HT := Lib.hid hSlT
      have HFr := Lib.hid hSlF
      have hokt : ∀ x ∈ LL.take k, EntOK x := fun x hx => ((HLG.out.take k).ok x hx).1
      have hokd : ∀ x ∈ LL.drop k, EntOK x := fun x hx => ((HLG.out.drop k).ok x hx).1
      have HE1 := Lib.hid fun (w' : World) (h : Held wc w') => enc_cod HSA.out AT k c3 w' (HT.out.held h) (by omega) hokt (by omega)
      have HE2 := Lib.hid fun (w' : World) (h : Held wc w') => enc_cod HSB.out AF (nn - k) (c3 - k) w' (HFr.out.held h) (by omega) hokd hcu
      have HD1 := Lib.hid fun w' => dec_cod HSA.out hokt (by rw [List.length_take, HN.out]; omega : (LL.take k).length = k) (by omega) w'
      have HD2 := Lib.hid fun w' => dec_cod HSB.out hokd (by rw [List.length_drop, HN.out] : (LL.drop k).length = nn - k) hcu w'
      have HH5 := Lib.hid hh5
      unfold BackTo at HD1 HD2
      clear hsb hcut0 hokt hokd hSlT hSlF hh5 x50 x46 y46 hi0 hz0 hz1 hz2
      go_upto_region 9 with fail
      refine Tl.start 12 (fun w' => w'.cell? ⟨w4.heap.size, 50, none⟩ = some (.slice A3 nn c3) ∧ w'.cell? ⟨w2.heap.size, 46, none⟩ = some (.int .u64 (c0 : Int))) (by kernel_rfl) (HBX.out _ (Held.refl wc).drew) (fun hHeld => ?_)
      refine Tl.tf 0 (⟨some 57, .fieldAddr 61 (.tmp 10) 2, 0, "more.go:22", #[], none⟩ : Oper) ?v1 rfl ?hy1 (by assumption) ?_
      case hy1 => (intro w; go_simp; all_goals (with_reducible rfl))
      try simp only [Act.put, Tl.p2, Tl.p3, Tl.p4]
      refine Tl.tk 1 (⟨some 58, .load 25 (.tmp 57), 25, "more.go:22", #[⟨0, .data⟩], none⟩ : Oper) ?v2 rfl ?hy2 (by assumption) ?_
      case hy2 => (intro w hSw; (try dsimp only at hSw); go_simp; all_goals (with_reducible rfl))
      try simp only [Act.put, Tl.p2, Tl.p3, Tl.p4]
      refine Tl.tf 2 (⟨some 59, .move (.tmp 12), 3, "more.go:22", #[], none⟩ : Oper) ?v3 rfl ?hy3 (by assumption) ?_
      case hy3 => (intro w; go_simp; all_goals (with_reducible rfl))
      try simp only [Act.put, Tl.p2, Tl.p3, Tl.p4]
      refine Tl.tf 3 (⟨some 60, .slice 25 (.tmp 58) none (some (.tmp 59)) none, 25, "more.go:22", #[⟨1, .data⟩, ⟨2, .data⟩], none⟩ : Oper) ?v4 rfl ?hy4 (by assumption) ?_
      case hy4 => (intro w; go_simp; all_goals (with_reducible rfl))
      try simp only [Act.put, Tl.p2, Tl.p3, Tl.p4]
      refine Tl.tf 4 (⟨some 61, .fieldAddr 57 (.tmp 9) 7, 0, "more.go:22", #[], none⟩ : Oper) ?v5 rfl ?hy5 (by assumption) ?_
      case hy5 => (intro w; go_simp; all_goals (with_reducible rfl))
      try simp only [Act.put, Tl.p2, Tl.p3, Tl.p4]
      refine Tl.tk 5 (⟨some 62, .load 30 (.tmp 61), 30, "more.go:22", #[⟨4, .data⟩], none⟩ : Oper) ?v6 rfl ?hy6 (by assumption) ?_
      case hy6 => (intro w hSw; (try dsimp only at hSw); go_simp; all_goals (with_reducible rfl))
      try simp only [Act.put, Tl.p2, Tl.p3, Tl.p4]
      refine Tl.step (i := 6) (o := (⟨some 63, .call { callee := .value (.func 10), args := #[.tmp 60, .tmp 62], argTypes := #[25, 30] }, 28, "more.go:22", #[⟨3, .data⟩, ⟨5, .data⟩], none⟩ : Oper)) (by kernel_rfl) rfl (fun K hK => ?_)
      go_simp
      refine (HE1.out _ (Held.refl wc).drew).mono ?_
      rintro e w7 ⟨rfl, h7⟩
      have H7x := Lib.hid ((Held.refl wc).drew.step h7)
      clear h7
      dsimp only
      refine hK.out _ _ (HBX.out _ H7x.out) (fun hHeld => ?_)
      clear hK K
      try simp only [Act.put, Tl.p2, Tl.p3, Tl.p4]
      refine Tl.tf 7 (⟨some 56, .move (.tmp 63), 28, "more.go:22", #[⟨6, .data⟩], none⟩ : Oper) ?v7 rfl ?hy7 (by assumption) ?_
      case hy7 => (intro w; go_simp; all_goals (with_reducible rfl))
      try simp only [Act.put, Tl.p2, Tl.p3, Tl.p4]
      refine Tl.tf 8 (⟨some 64, .extract (.tmp 56) 0, 9, "more.go:22", #[⟨7, .data⟩], none⟩ : Oper) ?v8 rfl ?hy8 (by assumption) ?_
      case hy8 => (intro w; go_simp; all_goals (with_reducible rfl))
      try simp only [Act.put, Tl.p2, Tl.p3, Tl.p4]
      refine Tl.tf 9 (⟨some 65, .extract (.tmp 56) 1, 27, "more.go:22", #[⟨7, .data⟩, ⟨10, .gcOnly .lateStores⟩], none⟩ : Oper) ?v9 rfl ?hy9 (by assumption) ?_
      case hy9 => (intro w; go_simp; all_goals (with_reducible rfl))
      try simp only [Act.put, Tl.p2, Tl.p3, Tl.p4]
      refine Tl.tf 10 (⟨some 14, .assign (.tmp 64), 9, "more.go:22", #[⟨8, .data⟩, ⟨6, .chain⟩, ⟨0, .phase⟩, ⟨1, .phase⟩, ⟨2, .phase⟩, ⟨3, .phase⟩, ⟨4, .phase⟩, ⟨5, .phase⟩, ⟨6, .phase⟩, ⟨7, .phase⟩, ⟨8, .phase⟩, ⟨9, .textOnly .lateStores⟩], none⟩ : Oper) ?v10 rfl ?hy10 (by assumption) ?_
      case hy10 => (intro w; go_simp; all_goals (with_reducible rfl))
      try simp only [Act.put, Tl.p2, Tl.p3, Tl.p4]
      refine Tl.tf 11 (⟨some 15, .assign (.tmp 65), 27, "more.go:22", #[⟨9, .data⟩, ⟨10, .chain⟩, ⟨0, .phase⟩, ⟨1, .phase⟩, ⟨2, .phase⟩, ⟨3, .phase⟩, ⟨4, .phase⟩, ⟨5, .phase⟩, ⟨6, .phase⟩, ⟨7, .phase⟩, ⟨8, .phase⟩, ⟨9, .phase⟩, ⟨10, .phase⟩], none⟩ : Oper) ?v11 rfl ?hy11 (by assumption) ?_
      case hy11 => (intro w; go_simp; all_goals (with_reducible rfl))
      try simp only [Act.put, Tl.p2, Tl.p3, Tl.p4]
      refine Tl.done (by kernel_rfl) ?_ _
      clear hHeld
      have M7 := Lib.hid (M6.out.keep H7x.out)
      have u50 := H7x.out.cell z50
      go_wp2_with fail
      refine (HE2.out _ H7x.out).mono ?_
      rintro e w8 ⟨rfl, h8⟩
      have M8 := Lib.hid (M7.out.keep h8)
      have u46 := h8.cell (H7x.out.cell z46)
      clear h8 HE1 HE2 hT hF HT HFr u50 z50 z46
      go_wp2_with fail
      refine (HD1.out _).mono ?_
      rintro e w9 ⟨Ax, cx, rfl, hox, h9⟩
      have M9 := Lib.hid (M8.out.own h9 hox)
      clear hox h9 HD1 u46
      go_wp2_with fail
      refine (HD2.out _).mono ?_
      rintro e wa ⟨Ay, cy, rfl, hoy, ha⟩
      have MA := Lib.hid (M9.out.own ha hoy)
      have HCB := Lib.hid fun (w' : World) (H : List Ck) (M : Mem w2 w' H) (h0 : H[0]? = some (.box w4.heap.size (mcA C' (memS g n) d' [.int .u32 clk', .slice A3 nn c3, qv]) 61)) => M.cell 0 h0 50 (mc_x (X := [.int .u32 clk', .slice A3 nn c3, qv]) HC2.out (j := 1) rfl)
      clear hoy ha HD2
      simp only [List.cons_append, List.nil_append] at MA
      go_upto_region 13 with fail
      refine Tl.start 28 (fun w' => w'.cell? ⟨w4.heap.size, 50, none⟩ = some (.slice A3 nn c3)) (by kernel_rfl) (HCB.out _ _ MA.out.drew rfl) (fun hHeld => ?_)
      refine Tl.tf 0 (⟨some 88, .move (.tmp 15), 27, "more.go:26", #[], none⟩ : Oper) ?v12 rfl ?hy12 (by assumption) ?_
      case hy12 => (intro w; go_simp; all_goals (with_reducible rfl))
      try simp only [Act.put, Tl.p2, Tl.p3, Tl.p4]
      refine Tl.tf 1 (⟨some 89, .binOp .eql 27 (.tmp 88) (.const (.int .i64 0)) 27, 4, "more.go:26", #[⟨0, .data⟩], none⟩ : Oper) ?v13 rfl ?hy13 (by assumption) ?_
      case hy13 => (intro w; go_simp; all_goals (with_reducible rfl))
      try simp only [Act.put, Tl.p2, Tl.p3, Tl.p4]
      refine Tl.tf 2 (⟨some 90, .move (.tmp 89), 4, "more.go:26", #[⟨1, .data⟩], none⟩ : Oper) ?v14 rfl ?hy14 (by assumption) ?_
      case hy14 => (intro w; go_simp; all_goals (with_reducible rfl))
      try simp only [Act.put, Tl.p2, Tl.p3, Tl.p4]
      refine Tl.tf 3 (⟨some 91, .move (.tmp 17), 27, "more.go:26", #[⟨2, .guard⟩], some (2, true)⟩ : Oper) ?v15 rfl ?hy15 (by assumption) ?_
      case hy15 => (intro w; go_simp; all_goals (with_reducible rfl))
      try simp only [Act.put, Tl.p2, Tl.p3, Tl.p4]
      refine Tl.tf 4 (⟨some 92, .binOp .eql 27 (.tmp 91) (.const (.int .i64 0)) 27, 4, "more.go:26", #[⟨3, .data⟩, ⟨2, .guard⟩], some (2, true)⟩ : Oper) ?v16 rfl ?hy16 (by assumption) ?_
      case hy16 => (intro w; go_simp; all_goals (with_reducible rfl))
      try simp only [Act.put, Tl.p2, Tl.p3, Tl.p4]
      refine Tl.tf 5 (⟨some 93, .pick (.tmp 90) (.tmp 92) (.const (.bool false)), 4, "more.go:26", #[⟨2, .data⟩, ⟨4, .data⟩], none⟩ : Oper) ?v17 rfl ?hy17 (by assumption) ?_
      case hy17 => (intro w; go_simp; all_goals (with_reducible rfl))
      try simp only [Act.put, Tl.p2, Tl.p3, Tl.p4]
      refine Tl.tf 6 (⟨some 94, .move (.tmp 93), 4, "more.go:26", #[⟨5, .data⟩, ⟨2, .chain⟩], none⟩ : Oper) ?v18 rfl ?hy18 (by assumption) ?_
      case hy18 => (intro w; go_simp; all_goals (with_reducible rfl))
      try simp only [Act.put, Tl.p2, Tl.p3, Tl.p4]
      refine Tl.tf 7 (⟨some 95, .move (.tmp 19), 27, "more.go:26", #[⟨6, .guard⟩], some (6, true)⟩ : Oper) ?v19 rfl ?hy19 (by assumption) ?_
      case hy19 => (intro w; go_simp; all_goals (with_reducible rfl))
      try simp only [Act.put, Tl.p2, Tl.p3, Tl.p4]
      refine Tl.tf 8 (⟨some 96, .binOp .eql 27 (.tmp 95) (.const (.int .i64 0)) 27, 4, "more.go:26", #[⟨7, .data⟩, ⟨6, .guard⟩], some (6, true)⟩ : Oper) ?v20 rfl ?hy20 (by assumption) ?_
      case hy20 => (intro w; go_simp; all_goals (with_reducible rfl))
      try simp only [Act.put, Tl.p2, Tl.p3, Tl.p4]
      refine Tl.tf 9 (⟨some 97, .pick (.tmp 94) (.tmp 96) (.const (.bool false)), 4, "more.go:26", #[⟨6, .data⟩, ⟨8, .data⟩], none⟩ : Oper) ?v21 rfl ?hy21 (by assumption) ?_
      case hy21 => (intro w; go_simp; all_goals (with_reducible rfl))
      try simp only [Act.put, Tl.p2, Tl.p3, Tl.p4]
      refine Tl.tf 10 (⟨some 98, .move (.tmp 97), 4, "more.go:26", #[⟨9, .data⟩, ⟨6, .chain⟩], none⟩ : Oper) ?v22 rfl ?hy22 (by assumption) ?_
      case hy22 => (intro w; go_simp; all_goals (with_reducible rfl))
      try simp only [Act.put, Tl.p2, Tl.p3, Tl.p4]
      refine Tl.tf 11 (⟨some 99, .move (.tmp 21), 27, "more.go:26", #[⟨10, .guard⟩], some (10, true)⟩ : Oper) ?v23 rfl ?hy23 (by assumption) ?_
      case hy23 => (intro w; go_simp; all_goals (with_reducible rfl))
      try simp only [Act.put, Tl.p2, Tl.p3, Tl.p4]
      refine Tl.tf 12 (⟨some 100, .binOp .eql 27 (.tmp 99) (.const (.int .i64 0)) 27, 4, "more.go:26", #[⟨11, .data⟩, ⟨10, .guard⟩], some (10, true)⟩ : Oper) ?v24 rfl ?hy24 (by assumption) ?_
      case hy24 => (intro w; go_simp; all_goals (with_reducible rfl))
      try simp only [Act.put, Tl.p2, Tl.p3, Tl.p4]
      refine Tl.tf 13 (⟨some 101, .pick (.tmp 98) (.tmp 100) (.const (.bool false)), 4, "more.go:26", #[⟨10, .data⟩, ⟨12, .data⟩], none⟩ : Oper) ?v25 rfl ?hy25 (by assumption) ?_
      case hy25 => (intro w; go_simp; all_goals (with_reducible rfl))
      try simp only [Act.put, Tl.p2, Tl.p3, Tl.p4]
      refine Tl.tf 14 (⟨some 102, .move (.tmp 101), 4, "more.go:26", #[⟨13, .data⟩, ⟨10, .chain⟩], none⟩ : Oper) ?v26 rfl ?hy26 (by assumption) ?_
      case hy26 => (intro w; go_simp; all_goals (with_reducible rfl))
      try simp only [Act.put, Tl.p2, Tl.p3, Tl.p4]
      refine Tl.tf 16 (⟨some 104, .move (.tmp 18), 25, "more.go:26", #[⟨14, .guard⟩], some (14, true)⟩ : Oper) ?v27 rfl ?hy27 (by assumption) ?_
      case hy27 => (intro w; go_simp; all_goals (with_reducible rfl))
      try simp only [Act.put, Tl.p2, Tl.p3, Tl.p4]
      refine Tl.tf 18 (⟨some 106, .move (.tmp 20), 25, "more.go:26", #[⟨14, .guard⟩], some (14, true)⟩ : Oper) ?v28 rfl ?hy28 (by assumption) ?_
      case hy28 => (intro w; go_simp; all_goals (with_reducible rfl))
      try simp only [Act.put, Tl.p2, Tl.p3, Tl.p4]
      refine Tl.tf 20 (⟨some 108, .fieldAddr 61 (.tmp 10) 2, 0, "more.go:26", #[⟨14, .guard⟩], some (14, true)⟩ : Oper) ?v29 rfl ?hy29 (by assumption) ?_
      case hy29 => (intro w; go_simp; all_goals (with_reducible rfl))
      try simp only [Act.put, Tl.p2, Tl.p3, Tl.p4]
      refine Tl.tk 21 (⟨some 109, .load 25 (.tmp 108), 25, "more.go:26", #[⟨20, .data⟩, ⟨14, .guard⟩], some (14, true)⟩ : Oper) ?v30 rfl ?hy30 (by assumption) ?_
      case hy30 => (intro w hSw; (try dsimp only at hSw); go_simp; all_goals (with_reducible rfl))
      try simp only [Act.put, Tl.p2, Tl.p3, Tl.p4]
      refine Tl.step (i := 15) (o := (⟨some 103, .buildSlice 25 0 #[], 25, "more.go:26", #[⟨14, .guard⟩], some (14, true)⟩ : Oper)) (by kernel_rfl) rfl (fun K hK => ?_)
      rw [if_pos (by rfl)]
      go_simp
      have N1 := Lib.hid (MA.out.drew.emptyRow (e := 68) (s := 4) (f := entC) (b := wa.heap.size) (by simp))
      simp only [List.cons_append, List.nil_append] at N1
      refine hK.out _ _ (HCB.out _ _ N1.out rfl) (fun hHeld => ?_)
      clear hK K
      try simp only [Act.put, Tl.p2, Tl.p3, Tl.p4]
      refine Tl.step (i := 17) (o := (⟨some 105, .call { callee := .builtin .append, args := #[.tmp 103, .tmp 104], argTypes := #[25, 25] }, 25, "more.go:26", #[⟨15, .data⟩, ⟨16, .data⟩, ⟨14, .chain⟩, ⟨14, .guard⟩], some (14, true)⟩ : Oper)) (by kernel_rfl) rfl (fun K hK => ?_)
      rw [if_pos (by rfl)]
      refine wpo_cat N1.out 6 rfl _ _ 25 rfl _ 40 Tryz.underlying25 Ma.info_ent rfl (by decide) entC_len entC_one (LL.take k) Ax k cx rfl rfl ((N1.out.row 4 rfl).reads entC_len).1 (by rfl) (by omega) (by decide) ?_
      intro A5 c5 w11 MM' _
      (try simp only [List.set_cons_zero, List.set_cons_succ, List.cons_append, List.nil_append] at MM')
      have N2 := Lib.hid MM'
      clear MM'
      rw [Nat.zero_add] at N2 ⊢
      refine hK.out _ _ (HCB.out _ _ N2.out rfl) (fun hHeld => ?_)
      clear hK K
      try simp only [Act.put, Tl.p2, Tl.p3, Tl.p4]
      refine Tl.step (i := 19) (o := (⟨some 107, .call { callee := .builtin .append, args := #[.tmp 105, .tmp 106], argTypes := #[25, 25] }, 25, "more.go:26", #[⟨17, .data⟩, ⟨18, .data⟩, ⟨17, .chain⟩, ⟨14, .guard⟩], some (14, true)⟩ : Oper)) (by kernel_rfl) rfl (fun K hK => ?_)
      rw [if_pos (by rfl)]
      refine wpo_cat N2.out 6 rfl _ _ 25 rfl _ 40 Tryz.underlying25 Ma.info_ent rfl (by decide) entC_len entC_one (LL.drop k) Ay (nn - k) cy rfl rfl ((N2.out.row 5 rfl).reads entC_len).1 (by rw [List.length_take, HN.out]; omega) (by omega) (by decide) ?_
      intro A6 c6 w12 MM' _
      (try simp only [List.set_cons_zero, List.set_cons_succ, List.cons_append, List.nil_append] at MM')
      rw [List.take_append_drop, Nat.add_sub_cancel' hk] at MM'
      rw [Nat.add_sub_cancel' hk]
      have N3 := Lib.hid MM'
      clear MM'
      refine hK.out _ _ (HCB.out _ _ N3.out rfl) (fun hHeld => ?_)
      clear hK K
      try simp only [Act.put, Tl.p2, Tl.p3, Tl.p4]
      refine Tl.step (i := 22) (o := (⟨some 110, .call { callee := .value (.func 11), args := #[.tmp 107, .tmp 109], argTypes := #[25, 25] }, 4, "more.go:26", #[⟨19, .data⟩, ⟨21, .data⟩, ⟨19, .chain⟩, ⟨14, .guard⟩], some (14, true)⟩ : Oper)) (by kernel_rfl) rfl (fun K hK => ?_)
      rw [if_pos (by rfl)]
      go_simp
      refine (same_any A6 A3 nn nn c6 c3 LL LL _ ((N3.out.row 6 rfl).reads entC_len).1 ((N3.out.row 1 rfl).reads entC_len).1 (by omega) (by omega)).mono ?_
      rintro e w13 ⟨q, rfl, hq, h13⟩
      obtain rfl : q = true := by simpa using hq
      have N4 := Lib.hid (N3.out.keep h13)
      clear hq h13
      dsimp only
      refine hK.out _ _ (HCB.out _ _ N4.out rfl) (fun hHeld => ?_)
      clear hK K
      try simp only [Act.put, Tl.p2, Tl.p3, Tl.p4]
      refine Tl.tf 23 (⟨some 111, .pick (.tmp 102) (.tmp 110) (.const (.bool false)), 4, "more.go:26", #[⟨14, .data⟩, ⟨22, .data⟩], none⟩ : Oper) ?v31 rfl ?hy31 (by assumption) ?_
      case hy31 => (intro w; go_simp; all_goals (with_reducible rfl))
      try simp only [Act.put, Tl.p2, Tl.p3, Tl.p4]
      refine Tl.tf 24 (⟨some 112, .move (.tmp 111), 4, "more.go:26", #[⟨23, .data⟩, ⟨22, .chain⟩], none⟩ : Oper) ?v32 rfl ?hy32 (by assumption) ?_
      case hy32 => (intro w; go_simp; all_goals (with_reducible rfl))
      try simp only [Act.put, Tl.p2, Tl.p3, Tl.p4]
      refine Tl.step (i := 25) (o := (⟨some 113, .call { callee := .value (.func 8), args := #[], argTypes := #[] }, 4, "more.go:26", #[⟨24, .chain⟩, ⟨24, .guard⟩], some (24, true)⟩ : Oper)) (by kernel_rfl) rfl (fun K hK => ?_)
      rw [if_pos (by rfl)]
      go_simp
      refine (HAW.out _).mono ?_
      rintro e w14 ⟨rfl, h14⟩
      have N5 := Lib.hid (N4.out.keep h14)
      clear h14
      dsimp only
      refine hK.out _ _ (HCB.out _ _ N5.out rfl) (fun hHeld => ?_)
      clear hK K
      try simp only [Act.put, Tl.p2, Tl.p3, Tl.p4]
      refine Tl.tf 26 (⟨some 114, .pick (.tmp 112) (.tmp 113) (.const (.bool false)), 4, "more.go:26", #[⟨24, .data⟩, ⟨25, .data⟩], none⟩ : Oper) ?v33 rfl ?hy33 (by assumption) ?_
      case hy33 => (intro w; go_simp; all_goals (with_reducible rfl))
      try simp only [Act.put, Tl.p2, Tl.p3, Tl.p4]
      refine Tl.tf 27 (⟨some 8, .assign (.tmp 114), 4, "more.go:26", #[⟨26, .data⟩, ⟨25, .chain⟩, ⟨0, .phase⟩, ⟨1, .phase⟩, ⟨2, .phase⟩, ⟨3, .phase⟩, ⟨4, .phase⟩, ⟨5, .phase⟩, ⟨6, .phase⟩, ⟨7, .phase⟩, ⟨8, .phase⟩, ⟨9, .phase⟩, ⟨10, .phase⟩, ⟨11, .phase⟩, ⟨12, .phase⟩, ⟨13, .phase⟩, ⟨14, .phase⟩, ⟨15, .phase⟩, ⟨16, .phase⟩, ⟨17, .phase⟩, ⟨18, .phase⟩, ⟨19, .phase⟩, ⟨20, .phase⟩, ⟨21, .phase⟩, ⟨22, .phase⟩, ⟨23, .phase⟩, ⟨24, .phase⟩, ⟨25, .phase⟩, ⟨26, .phase⟩], none⟩ : Oper) ?v34 rfl ?hy34 (by assumption) ?_
      case hy34 => (intro w; go_simp; all_goals (with_reducible rfl))
      try simp only [Act.put, Tl.p2, Tl.p3, Tl.p4]
      refine Tl.done (by kernel_rfl) ?_ _
      go_wp2
      go_ret
      exact ⟨rfl, H2.out.step N5.out.held⟩
  · have hb : (decide (n1 ≤ 40) && decide (n2 ≤ 30)) = false := by
      rw [Bool.and_eq_false_iff, decide_eq_false_iff_not, decide_eq_false_iff_not]
      omega
    have HF := Lib.hid fun w => few_any A1 A2 n1 n2 c1 c2 false hb.symm w
    clear g1 g2 wk wa hfew hb
    go_enter Tryz.func6, Tryz.ntmps6
    go_wp2_with fail
    refine (HF.out _).mono ?_
    rintro e w1 ⟨rfl, h1⟩
    go_wp2_with fail
    refine (HAW.out _).mono ?_
    rintro e w3 ⟨rfl, h3⟩
    go_wp2
    go_ret
    exact ⟨rfl, h1.step h3⟩
end Lw
end Go.Proofs.YtdacgdokbfcgdaaGreat
