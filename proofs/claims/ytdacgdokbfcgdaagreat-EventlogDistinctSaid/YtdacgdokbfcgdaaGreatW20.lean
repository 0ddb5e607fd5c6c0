/-
  The log of a recorded execution, with one entry changed where asked for (vmfleetlaw19.recorded).
  What came in reads as data: its cells, leaf by leaf, whatever structs, arrays and slices it is made of.
  The reference's comparison of two lists of entries (vmfleetref7.SameEntries): it tells whether they are equal.
  What came in reads as numbers, as entries; short lists (vmfleetmake.Few, vmfleetlaw19.short).
  Contracts: sealed segments: Open of eventlog and of its reference.
  The laws of chapter 19: what they call besides.
  What the walks of the laws of chapter 19 share.
-/
import Derived.Test.YtdacgdokbfcgdaaGreatW19
import Derived.Test.YtdacgdokbfcgdaaGreatW9
import Derived.OpenShut
import Derived.Test.YtdacgdokbfcgdaaGreatW1
import Derived.WalkKit
import Derived.ProofKit
import Derived.Deep.Slices
import Derived.ChangeArms
import Derived.Test.YtdacgdokbfcgdaaGreatW13
import Derived.Test.YtdacgdokbfcgdaaGreatW16
import Derived.Lib.QuietBelow
import Derived.Lib.Hide
import Derived.BigQuiet
import Derived.RegionTactic
import Derived.BigRegion
import Derived.IntWalk
import Derived.Test.YtdacgdokbfcgdaaGreatW15
set_option linter.unusedVariables false
set_option linter.unusedSimpArgs false
set_option maxRecDepth 100000
namespace Go.Proofs.YtdacgdokbfcgdaaGreat
open Go.RowKit Go.BigFrame Go.Sort Go.Lib
namespace Ma
open Enc (Ent entC EntOK okX ord ordTo adj entC_len entC_one)
def RecTo (h : Int) (w : World) (e : Ending) (w' : World) : Prop := ∃ (A : Option Addr) (n cap : Nat) (L : List Ent), e = .returned (.slice A n cap) ∧ Sl 4 entC w' A n L ∧ n ≤ cap ∧ cap ≤ maxLen ∧ n ≤ 331 ∧ (∀ x ∈ L, EntOK x) ∧ (3 ≤ h → ∃ c0 c, LogI L c0 c) ∧ Held w w'
theorem set_ok {L : List Ent} (h : ∀ x ∈ L, EntOK x) {k : Nat} {y : Ent} (hy : EntOK y) : ∀ x ∈ L.set k y, EntOK x := by
  intro x hx
  rcases List.mem_or_eq_of_mem_set hx with hx | rfl
  · exact h x hx
  · exact hy
theorem row_end {w W w' : World} {L' : List Ent} {g n cap : Nat} {h : Int} (hW : Held w W) (M : Mem W w' [logR W.heap.size (.slice (some ⟨g, 0, none⟩) n cap) L']) (hl : L'.length = n) (hc : n ≤ cap ∧ cap ≤ maxLen) (hn : n ≤ 331) (hok : ∀ x ∈ L', EntOK x) (hh : ¬ 3 ≤ h) : RecTo h w (.returned (.slice (some ⟨g, 0, none⟩) n cap)) w' := by
  subst hl
  exact ⟨_, _, cap, L', rfl, ((M.row 0 rfl).reads entC_len).1, hc.1, hc.2, hn, hok, fun h => absurd h hh, hW.step M.held⟩
set_option maxHeartbeats 8000000 in
theorem recorded_any (kind how at_ : Int) (hk0 : -9223372036854775808 ≤ kind ∧ kind ≤ 9223372036854775807) (hh0 : -9223372036854775808 ≤ how ∧ how ≤ 9223372036854775807) (ha0 : -9223372036854775808 ≤ at_ ∧ at_ ≤ 9223372036854775807) (A0 A1 : Option Addr) (n0 cap0 n1 cap1 : Nat) (L0 L1 : List Int) (w : World) (hL0 : Sl 1 nC w A0 n0 L0) (hL1 : Sl 1 nC w A1 n1 L1) (hn0 : n0 ≤ 40) (hn1 : n1 ≤ 30) :
    Calls Tryz.prog 9 #[.int .i64 kind, .slice A0 n0 cap0, .slice A1 n1 cap1, .int .i64 how, .int .i64 at_] w (RecTo (Mk.round how 6) w) := by
  have HM := Lib.hid (machine_any kind hk0 A0 n0 cap0 L0 w hL0 hn0)
  have HL1 := Lib.hid hL1
  have HR6 := Lib.hid fun w => Mk.round_any how 6 (by omega) (by omega) (by omega) (by omega) w
  have HR300 := Lib.hid fun w => Mk.round_any at_ 300 (by omega) (by omega) (by omega) (by omega) w
  have HR8 := Lib.hid fun w => Mk.round_any at_ 8 (by omega) (by omega) (by omega) (by omega) w
  have hb6 := Mk.round_bd how 6 (by omega)
  have hb300 := Mk.round_bd at_ 300 (by omega)
  have hb8 := Mk.round_bd at_ 8 (by omega)
  obtain ⟨r6, h6⟩ : ∃ r, Mk.round how 6 = r := ⟨_, rfl⟩
  obtain ⟨r300, h300⟩ : ∃ r, Mk.round at_ 300 = r := ⟨_, rfl⟩
  obtain ⟨r8, h8⟩ : ∃ r, Mk.round at_ 8 = r := ⟨_, rfl⟩
  rw [h6] at HR6 hb6 ⊢
  rw [h300] at HR300 hb300
  rw [h8] at HR8 hb8
  unfold MachTo at HM
  clear hL0 hL1 h6 h300 h8
  go_enter Tryz.func9, Tryz.ntmps9
  go_wp2_with fail
  refine HM.out.mono ?_
  rintro e w1 ⟨C, A, n, cap, d, M, rfl, hS, hd, hcn, hMs, h1⟩
  have HPL := Lib.hid (play_any C A n cap d M A1 n1 cap1 L1 hS hd (by omega) hn1 w1 hMs (HL1.out.held h1))
  have HW1 := Lib.hid h1
  unfold PlayTo at HPL
  clear hS hd hcn hMs h1 HM
  go_wp2_with fail
  refine HPL.out.mono ?_
  rintro e w2 ⟨C', g, d', clk', lv, qv, vo, LL, QL, LO, M', rfl, hP, h2⟩
  have M2 : Hid (Mem w1 _ [.box w2.heap.size z52 61, logR w1.heap.size lv LL, queR w1.heap.size qv QL]) := Lib.hid ((h2.allocF (b := w2.heap.size) rfl z52 61).pick [0, 2, 3] (by decide) rfl)
  have HR1 := Lib.hid (row_one (h2.row 1 rfl))
  have HR2 := Lib.hid (row_one (h2.row 2 rfl))
  have HCL := Lib.hid hP.st.cpu.len
  have HLG := Lib.hid hP.log
  have HLN : Hid (LL.length ≤ 331) := Lib.hid (by have := hP.len.1; omega)
  have HX1 := Lib.hid (HX1_of clk' lv qv HR1.out HR2.out)
  clear hP h2 HPL
  dsimp only
  go_upto_region 2 with (show wpList _ _ _ ((⟨_, Op.store 61 _ _, _, _, _, _⟩ : Oper) :: _) _ _; refine Mem.go_storeAll 61 rfl rfl rfl rfl 0 M2.out rfl (by rw [mc_size HCL.out]; exact sRec) (by first | (rw [mc_size HCL.out]; done) | (rw [mc_size HCL.out]; rfl)) (mc_one _ rfl _ HX1.out) ?_; intro w4 MM'; (try simp only [List.set_cons_zero, List.set_cons_succ] at MM'); have M4 := Lib.hid MM'; clear MM')
  obtain ⟨nn, hnn⟩ : ∃ nn, LL.length = nn := ⟨_, rfl⟩
  obtain ⟨A3, c3, rfl, hc3, hm3⟩ := (M4.out.row 1 rfl).shape
  have x50 := M4.out.cell 0 rfl 50 (mc_x (X := recX clk' (.slice A3 LL.length c3) qv) HCL.out (j := 1) rfl)
  rw [hnn] at x50 M4 hc3 HLN
  have HN : Is LL.length nn := ⟨hnn⟩
  have HC3 := Lib.hid (And.intro hc3 hm3)
  have HOK : Hid (∀ x ∈ LL, EntOK x) := Lib.hid fun x hx => (HLG.out.ok x hx).1
  have hnn3 := HLN.out
  clear hnn hc3 hm3 HR1 HR2 HX1 M2
  by_cases hz : nn = 0
  · subst hz
    go_wp2
    go_ret
    exact ⟨A3, 0, c3, LL, rfl, ((M4.out.row 1 rfl).reads entC_len).1, HC3.out.1, HC3.out.2, HLN.out, HOK.out, fun _ => ⟨_, _, HLG.out⟩, HW1.out.step M4.out.held⟩
  · have y0 : (0 : Int) < nn := by omega
    have HRK := Lib.hid fun w => Mk.round_any at_ (nn : Int) (by omega) (by omega) (by omega) (by omega) w
    have hbk := Mk.round_bd at_ (nn : Int) (by omega)
    obtain ⟨rk, hrk⟩ : ∃ r, Mk.round at_ (nn : Int) = r := ⟨_, rfl⟩
    rw [hrk] at HRK hbk
    obtain ⟨k, rfl⟩ : ∃ k : Nat, rk = (k : Int) := ⟨rk.toNat, by omega⟩
    have hkn : k < LL.length := by rw [HN.out]; omega
    obtain ⟨gl, x, rfl, hge, hlt, hx, hc⟩ := M4.out.slot 1 rfl entC_len (by decide) hkn
    have f0 : w4.frozen? ⟨gl, k * 4, none⟩ = false := (hc 0 (by decide)).1
    have d0 : w4.cell? ⟨gl, k * 4, none⟩ = some (.int .u64 (x.t : Int)) := (hc 0 (by decide)).2 _ rfl
    obtain ⟨f1, d1⟩ := hc 1 (by decide)
    obtain ⟨f2, d2⟩ := hc 2 (by decide)
    replace d1 := d1 _ rfl
    replace d2 := d2 _ rfl
    have hxo := HOK.out x (List.mem_of_getElem? hx)
    have yk1 : (k : Int) < nn := by omega
    have yk0 : (0 : Int) ≤ k := by omega
    have hkn2 : k < nn := by omega
    have HPT := Lib.hid fun (j : Nat) (hj : j < 4) (u : Value) (y : Ent) (hy : entC y = (entC x).set j u) => M4.out.putAt 1 rfl entC_len hx hj u y hy
    have HXO := Lib.hid hxo
    clear hc hx hz hge hkn hxo hrk
    by_cases q0 : r6 = 0
    · subst q0
      have hw3 : IntKind.u64.wrap r300 = r300 := IntWalk.u64_in _ ⟨by omega, by omega⟩
      obtain ⟨Y, hY, hY2⟩ : ∃ Y : Nat, IntKind.u64.wrap ((x.t : Int) + r300) = (Y : Int) ∧ Y < 18446744073709551616 := by
        have := Rw.bd_u64 (wf_wrap .u64 ((x.t : Int) + r300))
        exact ⟨(IntKind.u64.wrap ((x.t : Int) + r300)).toNat, by omega, by omega⟩
      have HY := Lib.hid hY2
      have HE : Hid (Mem w1 (w4.setCell ⟨gl, k * 4, none⟩ (.int .u64 (Y : Int))) _) := Lib.hid (HPT.out 0 (by decide) (.int .u64 (Y : Int)) ⟨Y, x.k, x.n, x.d⟩ rfl)
      clear hY2 HR8 HPT
      go_wp2_with fail
      refine (HRK.out _).mono ?_
      rintro e w5 ⟨rfl, rfl⟩
      go_wp2_with fail
      refine (HR6.out _).mono ?_
      rintro e w5 ⟨rfl, rfl⟩
      go_upto_region 7 with fail
      go_region_with (go_at_call 15; refine (HR300.out _).mono ?_; rintro e w9 ⟨rfl, rfl⟩)
      all_goals
        go_wp2
        go_ret
        exact row_end HW1.out (HE.out.drew.pick [1] (by decide) rfl) (by rw [List.length_set, HN.out]) HC3.out HLN.out (set_ok HOK.out ⟨HY.out, HXO.out.k1, HXO.out.k2, HXO.out.n1, HXO.out.n2, HXO.out.d⟩) (by decide)
    · by_cases q1 : r6 = 1
      · subst q1
        obtain ⟨Z, hZ⟩ : ∃ Z, IntKind.u32.wrap (bits .and .i64 how 3) = Z := ⟨_, rfl⟩
        obtain ⟨Y, hY⟩ : ∃ Y, IntKind.u32.wrap (x.n + Z) = Y := ⟨_, rfl⟩
        have HY : Hid (Wd Y) := Lib.hid (hY ▸ wd_wrap _)
        have HE : Hid (Mem w1 (w4.setCell ⟨gl, k * 4 + 2, none⟩ (.int .u32 Y)) _) := Lib.hid (HPT.out 2 (by decide) (.int .u32 Y) ⟨x.t, x.k, Y, x.d⟩ rfl)
        clear HR8 HR300 HPT
        go_wp2_with fail
        refine (HRK.out _).mono ?_
        rintro e w5 ⟨rfl, rfl⟩
        go_wp2_with fail
        refine (HR6.out _).mono ?_
        rintro e w5 ⟨rfl, rfl⟩
        go_wp2
        go_ret
        exact row_end HW1.out (HE.out.pick [1] (by decide) rfl) (by rw [List.length_set, HN.out]) HC3.out HLN.out (set_ok HOK.out ⟨HXO.out.t, HXO.out.k1, HXO.out.k2, HY.out.1, HY.out.2, HXO.out.d⟩) (by decide)
      · by_cases q2 : r6 = 2
        · subst q2
          have HE : Hid (Mem w1 (w4.setCell ⟨gl, k * 4 + 1, none⟩ (.int .i64 r8)) _) := Lib.hid (HPT.out 1 (by decide) (.int .i64 r8) ⟨x.t, r8, x.n, x.d⟩ rfl)
          have HB8 := Lib.hid hb8
          clear HR300 HPT
          go_wp2_with fail
          refine (HRK.out _).mono ?_
          rintro e w5 ⟨rfl, rfl⟩
          go_wp2_with fail
          refine (HR6.out _).mono ?_
          rintro e w5 ⟨rfl, rfl⟩
          go_wp2_with fail
          refine (HR8.out _).mono ?_
          rintro e w5 ⟨rfl, rfl⟩
          go_wp2
          go_ret
          exact row_end HW1.out (HE.out.pick [1] (by decide) rfl) (by rw [List.length_set, HN.out]) HC3.out HLN.out (set_ok HOK.out ⟨HXO.out.t, (by have := HB8.out; show (-9223372036854775808 : Int) ≤ r8; omega), (by have := HB8.out; show r8 ≤ (9223372036854775807 : Int); omega), HXO.out.n1, HXO.out.n2, HXO.out.d⟩) (by decide)
        · have q3 : 3 ≤ r6 := by omega
          have n0 : (r6 == 0) = false := by simp only [beq_eq_false_iff_ne, ne_eq]; omega
          have n1 : (r6 == 1) = false := by simp only [beq_eq_false_iff_ne, ne_eq]; omega
          have n2 : (r6 == 2) = false := by simp only [beq_eq_false_iff_ne, ne_eq]; omega
          clear HPT HR8 HR300
          go_wp2_with fail
          refine (HRK.out _).mono ?_
          rintro e w5 ⟨rfl, rfl⟩
          go_wp2_with fail
          refine (HR6.out _).mono ?_
          rintro e w5 ⟨rfl, rfl⟩
          go_wp2
          go_ret
          exact ⟨_, nn, c3, LL, rfl, ((M4.out.row 1 rfl).reads entC_len).1, HC3.out.1, HC3.out.2, HLN.out, HOK.out, fun _ => ⟨_, _, HLG.out⟩, HW1.out.step M4.out.held⟩
end Ma
end Go.Proofs.YtdacgdokbfcgdaaGreat

namespace Go.Proofs.YtdacgdokbfcgdaaGreat
open Go.RowKit
set_option linter.unusedVariables false
/-- The parts of a type (offset, type): a struct's fields, an array's elements. -/
def parts (P : Program) (t : TypeId) : Option (List (Nat × TypeId)) :=
  match P.underlying t with
  | some (.struct fs) => some (fs.toList.map fun f => (f.offset, f.type))
  | some (.array m e) => some ((List.range m).map fun i => (i * P.cellsOf e, e))
  | _ => none
/-- Cells that read as data of a type. -/
def Rds (P : Program) (w : World) : Nat → TypeId → List Value → Prop
  | 0, _, _ => True
  | n + 1, t, cs =>
    match parts P t with
    | some ps => cs.length = P.cellsOf t ∧ ∀ p ∈ ps, Rds P w n p.2 ((cs.drop p.1).take (P.cellsOf p.2))
    | none =>
      match P.underlying t with
      | some (.int k) => ∃ z, cs = [.int k z] ∧ (Lit.int k z).wf = true
      | some .bool => ∃ b, cs = [.bool b]
      | some .string => ∃ s : ByteArray, cs = [.string s] ∧ s.size ≤ maxLen
      | some (.slice e) => ∃ (A : Option Addr) (len cap : Nat), cs = [.slice A len cap] ∧ len ≤ cap ∧ cap ≤ maxLen ∧
          (A = none → cap = 0) ∧ (len = 0 ∨ P.cellsOf e = 0 ∨ ∃ b off, A = some ⟨b, off, none⟩ ∧ b < w.heap.size ∧ ∀ i, i < len → ∃ cs' : List Value, cs'.length = P.cellsOf e ∧ (∀ j v, cs'[j]? = some v → w.cell? ⟨b, off + i * P.cellsOf e + j, none⟩ = some v) ∧ Rds P w n e cs')
      | _ => True
theorem add_none (a : Addr) (h : a.spot = none) (i : Nat) : a.add i = ⟨a.block, a.off + i, none⟩ := by
  obtain ⟨b, o, s⟩ := a
  subst h
  unfold Addr.add; split
  · rename_i h; subst h; rfl
  · rfl
theorem rds_of_trod {H : Type} {enc : TypeId × Value → H} {P : Program} {w : World} {base : Nat} {spare : Nat → Bool} {held : Bool} : ∀ (n fuel : Nat) (t : TypeId) (cs : List Value) (x : DataW H × List MemPlace),
    DataW.trod enc P w base spare held fuel t cs = some x → Rds P w n t cs
  | 0, _, _, _, _, _ => trivial
  | n + 1, fuel, t, cs, x, h => by
    unfold Rds parts
    cases ht : P.underlying t with
    | none => trivial
    | some ty =>
      cases ty with
      | struct fs =>
        obtain ⟨xs, m, _, _, hl, hxl, hf⟩ := DataW.trod_struct ht h
        refine ⟨hl, fun p hp => ?_⟩
        obtain ⟨f, hfm, rfl⟩ := List.mem_map.1 hp
        obtain ⟨i, hi, hif⟩ := List.mem_iff_getElem.1 hfm
        have hi' : i < fs.size := by simpa using hi
        have hx := hf i f (by rw [Array.getElem?_eq_getElem hi']; simpa using hif)
        rw [List.getElem?_eq_getElem (by omega)] at hx
        exact rds_of_trod n _ _ _ _ hx
      | array m e =>
        obtain ⟨xs, k, _, _, hl, hxl, hf⟩ := DataW.trod_array ht h
        refine ⟨hl, fun p hp => ?_⟩
        obtain ⟨i, him, rfl⟩ := List.mem_map.1 hp
        have hi : i < m := by simpa using him
        have hx := hf i hi
        rw [List.getElem?_eq_getElem (by omega)] at hx
        exact rds_of_trod n _ _ _ _ hx
      | int k =>
        obtain ⟨z, rfl, _, hw⟩ := DataW.trod_int ht h
        exact ⟨z, rfl, hw⟩
      | bool =>
        obtain ⟨b, rfl, _⟩ := DataW.trod_bool ht h
        exact ⟨b, rfl⟩
      | string =>
        obtain ⟨s, rfl, _, hs⟩ := DataW.trod_string ht h
        exact ⟨s, rfl, hs⟩
      | slice e =>
        rcases Go.Deep.open_slice ht h with ⟨rfl, _⟩ | ⟨a, len, cap, m, k, D, Pl, rfl, hb, hl, hm, hmm, _, hi⟩
        · exact ⟨none, 0, 0, rfl, Nat.le_refl _, Nat.zero_le _, (fun _ => rfl), .inl rfl⟩
        · refine ⟨some a, len, cap, rfl, hl, hm, (fun h => by cases h), ?_⟩
          by_cases h0 : len = 0
          · exact .inl h0
          by_cases hz : P.cellsOf e = 0
          · exact .inr (.inl hz)
          have hlm : len ≤ m := by rw [hmm]; split <;> omega
          have hspot : a.spot = none ∧ a.block < w.heap.size := by
            obtain ⟨cs', hc, _⟩ := hi 0 (by omega)
            obtain ⟨_, hcl, hat⟩ := World.cells?_some hc
            have h1 := hat 0 (by omega)
            rw [List.getElem?_eq_getElem (by omega)] at h1
            have e0 : (a.add (0 * P.cellsOf e)).add 0 = a := by simp [Addr.add]
            rw [e0] at h1
            exact ⟨World.cell?_spot h1, World.block_lt_of_cell? w a h1⟩
          refine .inr (.inr ⟨a.block, a.off, ?_, hspot.2, fun i hil => ?_⟩)
          · obtain ⟨b, o, s⟩ := a
            simp at hspot
            rw [hspot.1]
          · obtain ⟨cs', hc, ht'⟩ := hi i (by omega)
            obtain ⟨_, hcl, hat⟩ := World.cells?_some hc
            refine ⟨cs', hcl, fun j v hv => ?_, rds_of_trod n _ _ _ _ ht'⟩
            have hj := (List.getElem?_eq_some_iff.1 hv).1
            have h1 := hat j (by omega)
            rw [Go.Deep.add_add, add_none a hspot.1, hv, ← Nat.add_assoc] at h1
            exact h1
      | _ => trivial
/-- The leaves of a type, in the order of its cells. -/
def leaves (P : Program) : Nat → TypeId → List TypeId
  | 0, t => [t]
  | n + 1, t => match parts P t with
    | some ps => ps.flatMap fun p => leaves P n p.2
    | none => [t]
def laidB (P : Program) : Nat → TypeId → Bool
  | 0, _ => false
  | n + 1, t => match parts P t with
    | some ps => (ps.foldr (fun p (k : Option Nat) => match k with | some e => if p.1 + P.cellsOf p.2 = e ∧ (leaves P n p.2).length = P.cellsOf p.2 ∧ laidB P n p.2 = true ∧ ((parts P p.2).isSome || P.cellsOf p.2 == 1) = true then some p.1 else none | none => none) (some (P.cellsOf t))) == some 0
    | none => true
/-- Each cell reads as its leaf. -/
def Lvs (P : Program) (w : World) (n : Nat) : List TypeId → List Value → Prop
  | [], cs => cs = []
  | t :: ts, cs => ∃ v rest, cs = v :: rest ∧ (∃ m, n ≤ m ∧ Rds P w m t [v]) ∧ Lvs P w n ts rest
theorem Lvs.app {P : Program} {w : World} {n : Nat} : ∀ {ts us : List TypeId} {cs ds : List Value}, Lvs P w n ts cs → Lvs P w n us ds → Lvs P w n (ts ++ us) (cs ++ ds)
  | [], _, cs, _, h, k => by rw [show cs = [] from h]; exact k
  | t :: ts, _, cs, _, ⟨v, rest, e, hv, hr⟩, k => by rw [e]; exact ⟨v, _, rfl, hv, Lvs.app hr k⟩
theorem rds_more {P : Program} {w : World} : ∀ (n m : Nat) (t : TypeId) (cs : List Value), n ≤ m → Rds P w m t cs → Rds P w n t cs
  | 0, _, _, _, _, _ => trivial
  | n + 1, 0, _, _, h, _ => by omega
  | n + 1, m + 1, t, cs, h, hr => by
    unfold Rds at hr ⊢
    cases hp : parts P t with
    | some ps =>
      rw [hp] at hr
      exact ⟨hr.1, fun p hpm => rds_more n m _ _ (by omega) (hr.2 p hpm)⟩
    | none =>
      rw [hp] at hr
      cases ht : P.underlying t with
      | none => trivial
      | some ty =>
        rw [ht] at hr
        cases ty <;> first | exact hr | trivial | skip
        obtain ⟨A, len, cap, h1, h2, h3, h4, h5⟩ := hr
        refine ⟨A, len, cap, h1, h2, h3, h4, h5.imp id fun h5 => h5.imp id ?_⟩
        rintro ⟨b, off, e1, e2, e3⟩
        refine ⟨b, off, e1, e2, fun i hi => ?_⟩
        obtain ⟨cs', f1, f2, f3⟩ := e3 i hi
        exact ⟨cs', f1, f2, rds_more n m _ _ (by omega) f3⟩
theorem laid_fold {P : Program} {n e : Nat} : ∀ (ps : List (Nat × TypeId)) (o : Nat),
    ps.foldr (fun p (k : Option Nat) => match k with | some e => if p.1 + P.cellsOf p.2 = e ∧ (leaves P n p.2).length = P.cellsOf p.2 ∧ laidB P n p.2 = true ∧ ((parts P p.2).isSome || P.cellsOf p.2 == 1) = true then some p.1 else none | none => none) (some e) = some o →
    match ps with
    | [] => o = e
    | p :: rest => o = p.1 ∧ (leaves P n p.2).length = P.cellsOf p.2 ∧ laidB P n p.2 = true ∧ ((parts P p.2).isSome || P.cellsOf p.2 == 1) = true ∧ rest.foldr (fun p (k : Option Nat) => match k with | some e => if p.1 + P.cellsOf p.2 = e ∧ (leaves P n p.2).length = P.cellsOf p.2 ∧ laidB P n p.2 = true ∧ ((parts P p.2).isSome || P.cellsOf p.2 == 1) = true then some p.1 else none | none => none) (some e) = some (p.1 + P.cellsOf p.2)
  | [], o, h => by simpa using h.symm
  | p :: rest, o, h => by
    rw [List.foldr_cons] at h
    revert h
    cases hr : rest.foldr (fun p (k : Option Nat) => match k with | some e => if p.1 + P.cellsOf p.2 = e ∧ (leaves P n p.2).length = P.cellsOf p.2 ∧ laidB P n p.2 = true ∧ ((parts P p.2).isSome || P.cellsOf p.2 == 1) = true then some p.1 else none | none => none) (some e) with
    | none => intro h; cases h
    | some k =>
      intro h
      simp only at h
      split at h
      · rename_i hc
        injection h with h
        exact ⟨h.symm, hc.2.1, hc.2.2.1, hc.2.2.2, by rw [hc.1]; exact hr⟩
      · cases h
/-- Cells that read as data of a type read so leaf by leaf. -/
theorem lvs_of_rds {P : Program} {w : World} (d : Nat) : ∀ (n : Nat) (t : TypeId) (cs : List Value), laidB P n t = true → Rds P w (n + d) t cs → (parts P t = none → ∃ v, cs = [v]) → Lvs P w d (leaves P n t) cs
  | 0, _, _, h, _, _ => by simp [laidB] at h
  | n + 1, t, cs, h, hr, h1 => by
    unfold leaves
    unfold laidB at h
    cases hp : parts P t with
    | none =>
      obtain ⟨v, rfl⟩ := h1 hp
      exact ⟨v, [], rfl, ⟨n + 1 + d, by omega, hr⟩, rfl⟩
    | some ps =>
      rw [hp] at h
      rw [show n + 1 + d = (n + d) + 1 by omega] at hr
      unfold Rds at hr
      rw [hp] at hr
      obtain ⟨hl, hall⟩ := hr
      have h' := eq_of_beq h
      have key : ∀ (qs : List (Nat × TypeId)) (o : Nat), (∀ p ∈ qs, Rds P w (n + d) p.2 ((cs.drop p.1).take (P.cellsOf p.2))) →
          qs.foldr (fun p (k : Option Nat) => match k with | some e => if p.1 + P.cellsOf p.2 = e ∧ (leaves P n p.2).length = P.cellsOf p.2 ∧ laidB P n p.2 = true ∧ ((parts P p.2).isSome || P.cellsOf p.2 == 1) = true then some p.1 else none | none => none) (some (P.cellsOf t)) = some o →
          o ≤ cs.length ∧ Lvs P w d (qs.flatMap fun p => leaves P n p.2) (cs.drop o) := by
        intro qs
        induction qs with
        | nil =>
          intro o _ hf
          have := laid_fold _ _ hf
          simp only at this
          subst this
          refine ⟨by omega, ?_⟩
          show cs.drop _ = []
          rw [← hl, List.drop_length]
        | cons p rest ih =>
          intro o ha hf
          obtain ⟨ho, hlen, hlb, hone, hrest⟩ := laid_fold _ _ hf
          subst ho
          obtain ⟨hle, hrs⟩ := ih _ (fun q hq => ha q (List.mem_cons_of_mem _ hq)) hrest
          refine ⟨by omega, ?_⟩
          have hp1 := ha p List.mem_cons_self
          have hsz : ((cs.drop p.1).take (P.cellsOf p.2)).length = P.cellsOf p.2 := by rw [List.length_take, List.length_drop]; omega
          have := lvs_of_rds d n p.2 _ hlb hp1 (fun hn => by
            have h2 : P.cellsOf p.2 = 1 := by rw [hn] at hone; simpa using hone
            rw [h2] at hsz
            exact List.length_eq_one_iff.1 (by rw [h2]; exact hsz))
          rw [List.flatMap_cons]
          have e : cs.drop p.1 = (cs.drop p.1).take (P.cellsOf p.2) ++ cs.drop (p.1 + P.cellsOf p.2) := by
            rw [← List.drop_drop, List.take_append_drop]
          rw [e]
          exact this.app hrs
      have := (key ps 0 hall h').2
      simpa using this
/-- A slice that came in, of elements that read as data. -/
def SlR (P : Program) (w : World) (n : Nat) (e : TypeId) (A : Option Addr) (len cap : Nat) : Prop :=
  len ≤ cap ∧ cap ≤ maxLen ∧ (A = none → cap = 0) ∧ (len = 0 ∨ P.cellsOf e = 0 ∨ ∃ b off, A = some ⟨b, off, none⟩ ∧ b < w.heap.size ∧ ∀ i, i < len → ∃ cs' : List Value, cs'.length = P.cellsOf e ∧ (∀ j v, cs'[j]? = some v → w.cell? ⟨b, off + i * P.cellsOf e + j, none⟩ = some v) ∧ Rds P w n e cs')
section
variable {P : Program} {w : World} {n : Nat} {t : TypeId} {v : Value}
theorem lvs_of (t : TypeId) (n d : Nat) {cs : List Value} (hs : (parts P t).isSome = true) (hl : laidB P n t = true) (h : Rds P w (n + d) t cs) : Lvs P w d (leaves P n t) cs :=
  lvs_of_rds d n t cs hl h (fun hn => by rw [hn] at hs; cases hs)
theorem leaf_int {k : IntKind} (hu : P.underlying t = some (.int k)) (h : ∃ m, n + 1 ≤ m ∧ Rds P w m t [v]) : ∃ z, v = .int k z ∧ (Lit.int k z).wf = true := by
  obtain ⟨m, hm, h⟩ := h
  obtain ⟨m, rfl⟩ : ∃ m', m = m' + 1 := ⟨m - 1, by omega⟩
  have hp : parts P t = none := by unfold parts; rw [hu]
  unfold Rds at h
  rw [hp, hu] at h
  obtain ⟨z, hz, hw⟩ := h
  exact ⟨z, by simpa using hz, hw⟩
theorem leaf_string (hu : P.underlying t = some .string) (h : ∃ m, n + 1 ≤ m ∧ Rds P w m t [v]) : ∃ s : ByteArray, v = .string s ∧ s.size ≤ maxLen := by
  obtain ⟨m, hm, h⟩ := h
  obtain ⟨m, rfl⟩ : ∃ m', m = m' + 1 := ⟨m - 1, by omega⟩
  have hp : parts P t = none := by unfold parts; rw [hu]
  unfold Rds at h
  rw [hp, hu] at h
  obtain ⟨s, hs, hm⟩ := h
  exact ⟨s, by simpa using hs, hm⟩
theorem leaf_slice {e : TypeId} (hu : P.underlying t = some (.slice e)) (h : ∃ m, n + 1 ≤ m ∧ Rds P w m t [v]) : ∃ A len cap, v = .slice A len cap ∧ SlR P w n e A len cap := by
  obtain ⟨m, hm, h⟩ := h
  obtain ⟨m, rfl⟩ : ∃ m', m = m' + 1 := ⟨m - 1, by omega⟩
  have hp : parts P t = none := by unfold parts; rw [hu]
  have h := rds_more (n + 1) (m + 1) _ _ hm h
  unfold Rds at h
  rw [hp, hu] at h
  obtain ⟨A, len, cap, h1, h2⟩ := h
  exact ⟨A, len, cap, by simpa using h1, h2⟩
end
theorem choose_list {α : Type} {p : Nat → α → Prop} : ∀ (n : Nat), (∀ i, i < n → ∃ x, p i x) → ∃ L : List α, L.length = n ∧ ∀ i (h : i < L.length), p i L[i]
  | 0, _ => ⟨[], rfl, fun i h => absurd h (Nat.not_lt_zero _)⟩
  | n + 1, h => by
    obtain ⟨L, hl, hp⟩ := choose_list n (fun i hi => h i (by omega))
    obtain ⟨x, hx⟩ := h n (by omega)
    refine ⟨L ++ [x], by simp [hl], fun i hi => ?_⟩
    by_cases e : i < L.length
    · rw [List.getElem_append_left e]; exact hp i e
    · have : i = n := by simp at hi; omega
      subst this
      rw [List.getElem_append_right (by omega)]
      simpa [hl] using hx
/-- Such a slice holds a list. -/
theorem SlR.sl {α : Type} {P : Program} {w : World} {n : Nat} {e : TypeId} {A : Option Addr} {len cap s : Nat} (f : α → List Value) (good : α → Prop) (hs : P.cellsOf e = s) (hs0 : 0 < s) (hx : ∀ cs, Rds P w n e cs → ∃ x, cs = f x ∧ good x) (h : SlR P w n e A len cap) :
    ∃ L : List α, Sl s f w A len L ∧ ∀ x ∈ L, good x := by
  subst hs
  obtain ⟨_, _, _, h0 | h0 | ⟨b, off, e1, hb, hi⟩⟩ := h
  · exact ⟨[], ⟨h0.symm, .inl h0⟩, by simp⟩
  · omega
  · obtain ⟨L, hl, hp⟩ := choose_list (p := fun i x => good x ∧ ∀ j v, (f x)[j]? = some v → w.cell? ⟨b, off + i * P.cellsOf e + j, none⟩ = some v) len (fun i hil => by
      obtain ⟨cs', h1, h2, h3⟩ := hi i hil
      obtain ⟨x, rfl, hg⟩ := hx cs' h3
      exact ⟨x, hg, h2⟩)
    refine ⟨L, ⟨hl, .inr ⟨b, off, e1, hb, fun k hk j v hv => (hp k hk).2 j v hv⟩⟩, fun x hxm => ?_⟩
    obtain ⟨i, hi, rfl⟩ := List.mem_iff_getElem.1 hxm
    exact (hp i hi).1
end Go.Proofs.YtdacgdokbfcgdaaGreat

namespace Go.Proofs.YtdacgdokbfcgdaaGreat
open Go.RowKit Go.BigFrame Go.Sort Go.Lib
namespace Ma
open Enc (Ent entC entC_len)
theorem ba_list (a b : ByteArray) : (a.toList = b.toList) ↔ a = b := by
  rw [ByteArray.toList_eq, ByteArray.toList_eq]
  constructor
  · intro h
    obtain ⟨x⟩ := a
    obtain ⟨y⟩ := b
    exact congrArg ByteArray.mk (Array.ext' h)
  · rintro rfl; rfl
theorem ent_iff {x y : Ent} : x = y ↔ x.t = y.t ∧ x.k = y.k ∧ x.n = y.n ∧ x.d = y.d := by
  obtain ⟨t, k, n, d⟩ := x
  obtain ⟨t', k', n', d'⟩ := y
  simp
theorem run_equalIn_ent (d : Nat) (x y : Ent) (w : World) : (Op.equalIn (d + 4) 68 (.agg #[.int .u64 (x.t : Int), .int .i64 x.k, .int .u32 x.n, .string x.d]) (.agg #[.int .u64 (y.t : Int), .int .i64 y.k, .int .u32 y.n, .string y.d])).run Tryz.prog w = .ok (@decide (x = y) (Classical.propDecidable _)) w := by
  have hs : Program.stoodInHeld Tryz.prog 68 = false := by kernel_rfl
  have hs2 : Program.stoodInHeld Tryz.prog 66 = false := by kernel_rfl
  unfold Op.equalIn
  have hc : ((x.t : Int) = (y.t : Int)) ↔ x.t = y.t := Int.ofNat_inj
  simp [run_underlying Tryz.underlying68, hs, go_sem, ent_iff, ba_list, hc]
  by_cases h0 : x.t = y.t <;> by_cases h1 : x.k = y.k <;> by_cases h2 : x.n = y.n <;> by_cases h3 : x.d = y.d <;> simp [h0, h1, h2, h3, hc]
theorem run_neq_ent {x y : Ent} {q : Bool} (h : q = true ↔ x = y) (w : World) : (binOp .neq 68 (.agg #[.int .u64 (x.t : Int), .int .i64 x.k, .int .u32 x.n, .string x.d]) (.agg #[.int .u64 (y.t : Int), .int .i64 y.k, .int .u32 y.n, .string y.d])).run Tryz.prog w = .ok (.bool (!q)) w := by
  simp only [binOp]
  have hq : @decide (x = y) (Classical.propDecidable _) = q := by
    rw [Bool.eq_iff_iff, h]; simp
  simp [Op.equal, Op.maxDepth, run_equalIn_ent 9996, hq]
theorem entAt {w a : World} {A : Option Addr} {n : Nat} {L : List Ent} (h : Sl 4 entC w A n L) (ha : Held w a) {k : Nat} (hk : k < n) :
    ∃ b off x, A = some ⟨b, off, none⟩ ∧ b < w.heap.size ∧ L[k]? = some x ∧ a.cell? ⟨b, off + k * 4, none⟩ = some (.int .u64 (x.t : Int)) ∧ a.cell? ⟨b, off + k * 4 + 1, none⟩ = some (.int .i64 x.k) ∧ a.cell? ⟨b, off + k * 4 + 2, none⟩ = some (.int .u32 x.n) ∧ a.cell? ⟨b, off + k * 4 + 3, none⟩ = some (.string x.d) := by
  obtain ⟨b, off, x, e, hb, hx, hc⟩ := Sl.at_ h ha hk
  exact ⟨b, off, x, e, hb, hx, hc 0 _ rfl, hc 1 _ rfl, hc 2 _ rfl, hc 3 _ rfl⟩
def SameTo (p : Prop) (w : World) (e : Ending) (w' : World) : Prop := ∃ q : Bool, e = .returned (.bool q) ∧ (q = true ↔ p) ∧ Held w w'
theorem take_same {L M : List Ent} {q : Nat} {x y : Ent} (hx : L[q]? = some x) (hy : M[q]? = some y) (h : L.take q = M.take q) (he : x = y) : L.take (q + 1) = M.take (q + 1) := by
  rw [List.take_add_one, List.take_add_one, h, hx, hy, he]
set_option maxHeartbeats 1000000 in
theorem same_any (A1 A2 : Option Addr) (n1 n2 c1 c2 : Nat) (L1 L2 : List Ent) (w : World) (h1 : Sl 4 entC w A1 n1 L1) (h2 : Sl 4 entC w A2 n2 L2) (hn : n1 ≤ 1000000) (hn2 : n2 ≤ 1000000) :
    Calls Tryz.prog 11 #[.slice A1 n1 c1, .slice A2 n2 c2] w (SameTo (L1 = L2) w) := by
  by_cases hne : n1 = n2
  · subst hne
    have H1 := Lib.hid h1
    have H2 := Lib.hid h2
    have HE : Hid (L1 = L2 ↔ L1.take n1 = L2.take n1) := Lib.hid (by rw [← h1.1, List.take_length, h1.1, ← h2.1, List.take_length])
    clear h1 h2
    go_enter Tryz.func11, Tryz.ntmps11
    go_wp2
    go_loopw [5] (fun i wr => ∃ q : Nat, i = .int .i64 (q : Int) ∧ q ≤ n1 ∧ L1.take q = L2.take q ∧ Held w wr) (fun i _ => n1 - (RowKit.intOf i).toNat)
    case atStart => exact ⟨0, rfl, Nat.zero_le _, rfl, Held.refl _⟩
    case round =>
      obtain ⟨q, rfl, hq, hT, hh⟩ := hrel
      have HH := Lib.hid hh
      have HT := Lib.hid hT
      clear hT
      by_cases hlt : q < n1
      · obtain ⟨b1, o1, x, rfl, _, hx, x0, x1, x2, x3⟩ := entAt H1.out hh (k := q) hlt
        obtain ⟨b2, o2, y, rfl, _, hy, y0, y1, y2, y3⟩ := entAt H2.out hh (k := q) hlt
        have z2 : (q : Int) < n1 := by omega
        have z3 : (0 : Int) ≤ q := by omega
        have j0 : ¬ (q : Int) < 0 := by omega
        by_cases hxy : x = y
        · have hne := run_neq_ent (x := x) (y := y) (q := true) (by simp [hxy])
          have HN := Lib.hid (take_same hx hy HT.out hxy)
          clear hx hy hh hxy
          go_wp2
          go_big_quiet (fail)
          go_wp2
          go_roundw
          case rel => exact ⟨q + 1, by go_num, by omega, HN.out, HH.out.step ((Held.refl _).drewN _)⟩
          case measure => (simp [RowKit.intOf]) <;> omega
        · have hne := run_neq_ent (x := x) (y := y) (q := false) (by simp [hxy])
          have HN : Hid (¬ L1 = L2) := Lib.hid (fun h => hxy (by rw [h, hy] at hx; exact (Option.some.inj hx).symm))
          clear hx hy hh hxy
          go_wp2
          go_big_quiet (fail)
          go_wp2
          go_ret
          exact ⟨false, rfl, ⟨(fun h => by cases h), fun h => absurd h HN.out⟩, HH.out.step ((Held.refl _).drewN _)⟩
      · obtain rfl : q = n1 := by omega
        have z2 : ¬ (q : Int) < q := by omega
        go_wp2
        go_ret
        exact ⟨true, rfl, ⟨fun _ => HE.out.2 HT.out, fun _ => rfl⟩, HH.out⟩
  · have hz : ¬ (n1 : Int) = n2 := by omega
    have HN : Hid (¬ L1 = L2) := Lib.hid (fun h => hne (by rw [← h1.1, ← h2.1, h]))
    clear h1 h2
    go_enter Tryz.func11, Tryz.ntmps11
    go_wp2
    go_ret
    exact ⟨false, rfl, ⟨(fun h => by cases h), fun h => absurd h HN.out⟩, Held.refl _⟩
end Ma
end Go.Proofs.YtdacgdokbfcgdaaGreat

namespace Go.Proofs.YtdacgdokbfcgdaaGreat
open Go.RowKit Go.WideShapes Go.ChangeShapes Go.ChangeAt
namespace Opn
open Enc
def nZ (z : Int) : List Value := [.int .i64 z]
section
variable {w : World} {d : Nat}
theorem nat_of {z : Int} (h : (Lit.int .u64 z).wf = true) : ∃ n : Nat, z = (n : Int) ∧ n < 18446744073709551616 := by
  have := Rw.bd_u64 h
  exact ⟨z.toNat, by omega, by omega⟩
theorem rd_ent {cs : List Value} (h : Rds Tryz.prog w (8 + (d + 1)) 68 cs) : ∃ x : Ent, cs = entC x ∧ EntOK x := by
  have hv := lvs_of 68 8 (d + 1) (by kernel_rfl) (by kernel_rfl) h
  rw [show leaves Tryz.prog 8 68 = [30, 3, 40, 9] by kernel_rfl] at hv
  obtain ⟨v0, _, rfl, h0, v1, _, rfl, h1, v2, _, rfl, h2, v3, _, rfl, h3, rfl⟩ := hv
  obtain ⟨t, rfl, w0⟩ := leaf_int Tryz.underlying30 h0
  obtain ⟨k, rfl, w1⟩ := leaf_int Tryz.underlying3 h1
  obtain ⟨n, rfl, w2⟩ := leaf_int Tryz.underlying40 h2
  obtain ⟨s, rfl, w3⟩ := leaf_string Tryz.underlying9 h3
  obtain ⟨t, rfl, ht⟩ := nat_of w0
  have b1 := Rw.bd_i64 w1
  have b2 := Rw.bd_u32 w2
  exact ⟨⟨t, k, n, s⟩, rfl, ht, b1.1, b1.2, b2.1, b2.2, by unfold maxLen at w3; simp only; omega⟩
theorem rd_int {cs : List Value} (h : Rds Tryz.prog w (1 + d) 3 cs) : ∃ x : Int, cs = nZ x := by
  have hp : parts Tryz.prog 3 = none := by kernel_rfl
  rw [show 1 + d = d + 1 by omega] at h
  unfold Rds at h
  rw [hp, Tryz.underlying3] at h
  obtain ⟨z, hz, _⟩ := h
  exact ⟨z, hz⟩
end
section
variable {H : Type} {enc : TypeId × Value → H} {w : World} {r : Reach} {b0 : Nat} {base : Nat} {spare : Nat → Bool} {held : Bool} {v : Value} {d : DataW H} {p : List MemPlace}
theorem in_ints (hv : Value.okWide Tryz.prog w r b0 22 v) (h : DataW.Trod enc Tryz.prog w base spare held 22 v d p) :
    ∃ A len cap L, v = .slice A len cap ∧ (Sl 1 nZ w A len L ∧ len ≤ maxLen) := by
  obtain ⟨A, len, cap, rfl⟩ := okWide_slice Tryz.underlying22 hv
  obtain ⟨fuel, hf⟩ := h
  obtain ⟨A', len', cap', e, hs⟩ := leaf_slice (n := 9) Tryz.underlying22 ⟨10, by omega, rds_of_trod 10 _ _ _ _ hf⟩
  injection e with e1 e2 e3
  subst e1 e2 e3
  obtain ⟨L, hL, _⟩ := hs.sl nZ (fun _ => True) (s := 1) (by kernel_rfl) (by decide) (fun cs hr => by
    obtain ⟨x, e⟩ := rd_int (d := 8) hr
    exact ⟨x, e, trivial⟩)
  exact ⟨A, len, cap, L, rfl, hL, Nat.le_trans hs.1 hs.2.1⟩
theorem in_ents (hv : Value.okWide Tryz.prog w r b0 25 v) (h : DataW.Trod enc Tryz.prog w base spare held 25 v d p) :
    ∃ A len cap L, v = .slice A len cap ∧ (Sl 4 entC w A len L ∧ len ≤ maxLen ∧ ∀ x ∈ L, EntOK x) := by
  obtain ⟨A, len, cap, rfl⟩ := okWide_slice Tryz.underlying25 hv
  obtain ⟨fuel, hf⟩ := h
  obtain ⟨A', len', cap', e, hs⟩ := leaf_slice (n := 9) Tryz.underlying25 ⟨10, by omega, rds_of_trod 10 _ _ _ _ hf⟩
  injection e with e1 e2 e3
  subst e1 e2 e3
  obtain ⟨L, hL, hg⟩ := hs.sl entC (fun x => EntOK x) (s := 4) (by kernel_rfl) (by decide) (fun cs hr => rd_ent (d := 0) hr)
  exact ⟨A, len, cap, L, rfl, hL, Nat.le_trans hs.1 hs.2.1, hg⟩
end
theorem few_any (A1 A2 : Option Addr) (n1 n2 c1 c2 : Nat) (b : Bool) (hb : b = (decide (n1 ≤ 40) && decide (n2 ≤ 30))) (w : World) : Calls Tryz.prog 7 #[.slice A1 n1 c1, .slice A2 n2 c2] w fun e w' => e = .returned (.bool b) ∧ Held w w' := by
  by_cases h1 : n1 ≤ 40
  · by_cases h2 : n2 ≤ 30
    · have y1 : (n1 : Int) ≤ 40 := by omega
      have y2 : (n2 : Int) ≤ 30 := by omega
      rw [decide_eq_true h1, decide_eq_true h2] at hb
      subst hb
      go_enter Tryz.func7, Tryz.ntmps7
      go_wp2
      go_ret
      exact ⟨rfl, Held.refl _⟩
    · have y1 : (n1 : Int) ≤ 40 := by omega
      have y2 : ¬ (n2 : Int) ≤ 30 := by omega
      rw [decide_eq_true h1, decide_eq_false h2] at hb
      subst hb
      go_enter Tryz.func7, Tryz.ntmps7
      go_wp2
      go_ret
      exact ⟨rfl, Held.refl _⟩
  · have y1 : ¬ (n1 : Int) ≤ 40 := by omega
    rw [decide_eq_false h1, Bool.false_and] at hb
    subst hb
    go_enter Tryz.func7, Tryz.ntmps7
    go_wp2
    go_ret
    exact ⟨rfl, Held.refl _⟩
end Opn
end Go.Proofs.YtdacgdokbfcgdaaGreat

namespace Go.Proofs.YtdacgdokbfcgdaaGreat
open Go.RowKit Go.Sort
namespace Lgc
open Lg Strs
def OpensTo (r : Nat × List UInt8 × Int) (w : World) (e : Ending) (w' : World) : Prop := e = .returned (.tuple #[.int .u64 r.1, .string ⟨r.2.1.toArray⟩, .int .i64 r.2.2]) ∧ Held w w'
theorem opens_form {l : List UInt8} (h : ((opR l).2.2 || decide ((opR l).2.1.length ≠ 8)) = true) : opens l = (0, [], 1900) := by unfold opens; rw [if_pos h]
theorem opens_sum {l : List UInt8} (h : ¬ ((opR l).2.2 || decide ((opR l).2.1.length ≠ 8)) = true) (h2 : be8 (Hs.hash HS (l.take (l.length - 8))) ≠ (opR l).2.1) : opens l = (0, [], 1903) := by unfold opens; rw [if_neg h, if_pos h2]
theorem opens_yes {l : List UInt8} (h : ¬ ((opR l).2.2 || decide ((opR l).2.1.length ≠ 8)) = true) (h2 : ¬ be8 (Hs.hash HS (l.take (l.length - 8))) ≠ (opR l).2.1) : opens l = ((numR l false).1, (opR l).1, 0) := by unfold opens; rw [if_neg h, if_neg h2]
theorem opR_len (l : List UInt8) : (opR l).2.1.length ≤ l.length := by
  unfold opR dataR
  exact Nat.le_trans (bytesR_len _ _ _).2 (Nat.le_trans (numR_len _ _) (numR_len _ _))
theorem ret_op {n : Int} {s : ByteArray} {l : List UInt8} {e : Int} (h : s.data.toList = l) : Ending.returned (.tuple #[.int .u64 n, .string s, .int .i64 e]) = .returned (.tuple #[.int .u64 n, .string ⟨l.toArray⟩, .int .i64 e]) := by rw [str_mk h]
set_option maxHeartbeats 1000000 in
theorem open_any (s : ByteArray) (hs : (s.size : Int) ≤ 1000000000000) (w : World) : Calls Tryz.prog 19 #[.string s] w (OpensTo (opens s.data.toList) w) := by
  have hle := opR_len s.data.toList
  have hle1 := numR_len s.data.toList false
  rw [len_eq] at hle hle1
  have HF := Lib.hid (@opens_form s.data.toList)
  have HS1 := Lib.hid (@opens_sum s.data.toList)
  have HY := Lib.hid (@opens_yes s.data.toList)
  have HLS := Lib.hid (len_eq s)
  have hnum := Lib.hid (number_any w.heap.size s false (by omega) (w.alloc (.cells #[.string s, .bool false] 87)) (box_new _ _))
  have hop : opR s.data.toList = dataR (numR s.data.toList false).2.1 (numR s.data.toList false).2.2 := rfl
  obtain ⟨⟨n, l1, b1⟩, hN⟩ : ∃ x, numR s.data.toList false = x := ⟨_, rfl⟩
  obtain ⟨⟨d, l2, b2⟩, hO⟩ : ∃ x, opR s.data.toList = x := ⟨_, rfl⟩
  rw [hN] at hop hnum HY hle1
  rw [hO] at hop HF HS1 HY hle
  simp only at hop hnum HF HS1 HY hle hle1
  have HOP := Lib.hid hop
  clear hop hN hO
  go_enter Tryz.func19, Tryz.ntmps19
  go_wp2_with fail
  refine hnum.out.mono ?_
  rintro e w1 ⟨rfl, s1, hs1, hb1, hg1⟩
  have hz1 : s1.size ≤ 9223372036854775807 := by rw [← len_eq, hs1]; omega
  have hdat := Lib.hid (data_any w.heap.size s1 b1 hz1 w1 hb1)
  rw [hs1, ← HOP.out] at hdat
  have HW1 : Hid (Held w w1) := held_of ((Held.refl w).alloc _) hg1 (Nat.le_refl _)
  clear hs1 hb1 hg1 hnum
  go_wp2_with fail
  refine hdat.out.mono ?_
  rintro e w2 ⟨t, rfl, ht, s2, hs2, hb2, hg2⟩
  have HW2 : Hid (Held w w2) := held_of HW1.out hg2 (Nat.le_refl _)
  have hz2 : (s2.size : Int) ≤ 1000000000000 := by rw [← len_eq, hs2]; omega
  have hz3 : s2.size ≤ s.size := by rw [← len_eq, hs2]; exact hle
  have c0 : w2.cell? ⟨w.heap.size, 0, none⟩ = some (.string s2) := box_cell hb2 0 rfl
  have c1 : w2.cell? ⟨w.heap.size, 1, none⟩ = some (.bool b2) := box_cell hb2 1 rfl
  have lt := box_lt hb2
  have HT := Lib.hid ht
  have HS2 := Lib.hid hs2
  have hl2 : l2.length = s2.size := by rw [← HS2.out, len_eq]
  have HL2 := Lib.hid hl2
  clear ht hs2 hb2 hg2 hdat hl2 hle hle1
  cases b2
  · by_cases h8 : s2.size = 8
    · have h8' : ((s2.size : Int) != 8) = false := by simp [h8]
      have hz4 : (8 : Int) ≤ (s.size : Int) := by omega
      have hsub : (s.extract 0 (s.size - 8)).data.toList = s.data.toList.take (s.data.toList.length - 8) := by rw [ext_take, len_eq]
      have HSB := Lib.hid hsub
      have H8 := Lib.hid h8
      have k0 := cell_regrown c0
      have HN8 : Hid (¬ (false || decide (l2.length ≠ 8)) = true) := by
        show ¬ _
        have := HL2.out
        rw [this, h8]; simp
      clear hsub h8
      have cA := Lib.hid fun dd os => Calls.regrown_of (d := dd) (os := os) (sum_any (s.extract 0 (s.size - 8)) (by rw [ByteArray.size_extract]; omega) (grow (redrawn w2 dd) os))
      rw [HSB.out] at cA
      have i1 : (0 : Int) ≤ (s.size : Int) - 8 := by omega
      have i2 : IntKind.i64.wrap ((s.size : Int) - 8) = (s.size : Int) - 8 := IntWalk.i64_in _ (by omega)
      have i3 : ((s.size : Int) - 8).toNat = s.size - 8 := by omega
      have htl : s2.toList = l2 := by rw [ByteArray.toList_eq]; exact HS2.out
      generalize be8 (Hs.hash HS (s.data.toList.take (s.data.toList.length - 8))) = q at *
      by_cases hq : q = l2
      · have hne2 : (q == s2.toList) = true := by rw [htl]; simp [hq]
        have H := Lib.hid (HY.out HN8.out (by simp [hq]))
        clear htl hq
        go_wp2
        refine wp_region_quiet_below (by kernel_rfl) (by kernel_rfl) ?_
        repeat (go_big_quiet_step (first | (go_at_call 43; exact cA.out _ _)))
        refine wpQuiet_nil ?_
        intro _ hw'
        obtain ⟨⟨dq, osq⟩, hw''⟩ := hw'
        subst hw''
        go_wp2
        go_ret3
        exact ⟨by rw [H.out]; exact ret_op HT.out, HW2.out.step (below_regrown w2 dq osq)⟩
      · have hne2 : (q == s2.toList) = false := by rw [htl]; simp [hq]
        have H := Lib.hid (HS1.out HN8.out hq)
        clear htl hq
        go_wp2
        refine wp_region_quiet_below (by kernel_rfl) (by kernel_rfl) ?_
        repeat (go_big_quiet_step (first | (go_at_call 43; exact cA.out _ _)))
        refine wpQuiet_nil ?_
        intro _ hw'
        obtain ⟨⟨dq, osq⟩, hw''⟩ := hw'
        subst hw''
        go_wp2
        go_ret3
        exact ⟨by rw [H.out]; rfl, HW2.out.step (below_regrown w2 dq osq)⟩
    · have h8' : ((s2.size : Int) != 8) = true := by simp; omega
      have H := Lib.hid (HF.out (by rw [HL2.out]; simp [h8]))
      clear h8
      go_wp2
      go_ret3
      exact ⟨by rw [H.out]; rfl, HW2.out⟩
  · have H := Lib.hid (HF.out rfl)
    go_wp2
    go_ret3
    exact ⟨by rw [H.out]; rfl, HW2.out⟩
end Lgc
end Go.Proofs.YtdacgdokbfcgdaaGreat

namespace Go.Proofs.YtdacgdokbfcgdaaGreat
open Go.RowKit Go.BigFrame Go.Sort
namespace Enc
open Lgc Lg Strs
def en1 : Ent := ⟨7, 2, 0, ⟨#[]⟩⟩
theorem en1_ok : ∀ x ∈ [en1], EntOK x := by
  intro x hx
  simp only [List.mem_singleton] at hx
  subst hx
  exact ⟨by decide, by decide, by decide, by decide, by decide, by decide⟩
theorem en1_enc : encode [en1] 5 = ([1, 2, 2], 0) := by decide +kernel
theorem sl1 (x : Ent) (w : World) : Sl 4 entC (w.alloc (.cells #[.int .u64 (x.t : Int), .int .i64 x.k, .int .u32 x.n, .string x.d] 68)) (some ⟨w.heap.size, 0, none⟩) 1 [x] := by
  refine ⟨rfl, .inr ⟨w.heap.size, 0, rfl, by simp, ?_⟩⟩
  intro k hk j v hv
  obtain rfl : k = 0 := by simpa using hk
  match j, hv with
  | 0, hv => simp [entC] at hv; subst hv; simp
  | 1, hv => simp [entC] at hv; subst hv; simp
  | 2, hv => simp [entC] at hv; subst hv; simp
  | 3, hv => simp [entC] at hv; subst hv; simp
  | j + 4, hv => simp [entC] at hv
set_option maxHeartbeats 2000000 in
theorem awake_any (w : World) : Calls Tryz.prog 8 #[] w fun e w' => e = .returned (.bool true) ∧ Held w w' := by
  have E1 : Hid (∀ w : World, Calls Tryz.prog 10 #[.slice (some ⟨w.heap.size, 0, none⟩) 1 1, .int .u64 5] (w.alloc (.cells #[.int .u64 7, .int .i64 2, .int .u32 0, .string ⟨#[]⟩] 68))
      fun e w' => e = .returned (.tuple #[.string ⟨#[1, 2, 2]⟩, .int .i64 0]) ∧ Held (w.alloc (.cells #[.int .u64 7, .int .i64 2, .int .u32 0, .string ⟨#[]⟩] 68)) w') := fun w => by
    have := encode_any (some ⟨w.heap.size, 0, none⟩) 1 1 [en1] 5 _ (sl1 en1 w) (by decide) en1_ok (by decide)
    rw [en1_enc] at this
    exact this
  have hpl : (packed 300 [97, 98]).length ≤ 100 := by decide +kernel
  have P1 : Hid (∀ w, Calls Tryz.prog 20 #[.int .u64 300, .string ⟨#[97, 98]⟩] w fun e w' => e = .returned (.string ⟨(packed 300 [97, 98]).toArray⟩) ∧ Held w w') := fun w => pack_any 300 ⟨#[97, 98]⟩ (by decide) (by decide) w
  have O1 : Hid (∀ w, Calls Tryz.prog 19 #[.string ⟨(packed 300 [97, 98]).toArray⟩] w fun e w' => e = .returned (.tuple #[.int .u64 300, .string ⟨#[97, 98]⟩, .int .i64 0]) ∧ Held w w') := fun w => by
    have := open_any ⟨(packed 300 [97, 98]).toArray⟩ (by rw [ba_size]; omega) w
    rw [show (⟨(packed 300 [97, 98]).toArray⟩ : ByteArray).data.toList = packed 300 [97, 98] by simp, opens_packed 300 [97, 98] (by decide) (by decide)] at this
    exact this
  have V1 : Hid (∀ w, Calls Tryz.prog 21 #[.agg #[.int .i64 2, .int .u32 0, .string ⟨#[]⟩]] w fun e w' => e = .returned (.bool true) ∧ Held w w') := fun w => Ev.valid_any 2 0 ⟨#[]⟩ (by decide) (by decide) (by decide) (by decide) (by decide) w
  clear hpl
  generalize packed 300 [97, 98] = pk at P1 O1
  go_enter Tryz.func8, Tryz.ntmps8
  go_wp2_with fail
  refine (E1.out _).mono ?_
  rintro e w1 ⟨rfl, h1⟩
  have W1 := Lib.hid (((Held.refl w).alloc (.cells #[.int .u64 7, .int .i64 2, .int .u32 0, .string ⟨#[]⟩] 68)).step h1)
  clear h1 E1
  go_wp2_with fail
  refine (P1.out _).mono ?_
  rintro e w2 ⟨rfl, h2⟩
  have W2 := Lib.hid (W1.out.step h2)
  clear h2 P1 W1
  go_wp2_with fail
  refine (O1.out _).mono ?_
  rintro e w3 ⟨rfl, h3⟩
  have W3 := Lib.hid (W2.out.step h3)
  clear h3 O1 W2
  go_wp2_with fail
  refine (V1.out _).mono ?_
  rintro e w4 ⟨rfl, h4⟩
  have W4 := Lib.hid (W3.out.step h4)
  clear h4 V1 W3
  go_wp2
  go_ret
  exact ⟨rfl, W4.out⟩
end Enc
end Go.Proofs.YtdacgdokbfcgdaaGreat

namespace Go.Proofs.YtdacgdokbfcgdaaGreat
open Go.RowKit Go.BigFrame Go.Sort Go.Lib
namespace Lw
open Enc (Ent entC EntOK okX encode encF)
open Ma (LogI)
def LawTo (W : World) (e : Ending) (w' : World) : Prop := e = .returned (.bool true) ∧ Below W.heap.size W w'
theorem enc_log {L : List Ent} {f c0 c : Nat} (h : LogI L c0 c) (hn : L.length ≤ 331) (hf : ∀ x, L[0]? = some x → f ≤ x.t) : encode L f = (Uv.put L.length ++ encF f L, 0) := by
  have h1 := Enc.encF_len h.ok f
  have h2 := Uv.put_len L.length (by omega)
  refine Enc.enc_yes (by omega) (List.all_eq_true.2 fun x hx => (h.ok x hx).2) ?_ (by rw [List.length_append]; omega)
  rw [h.ord, Bool.not_true, Bool.false_or]
  unfold Enc.early
  split
  · rename_i x hx
    have := hf x hx
    exact decide_eq_false (by omega)
  · rfl
end Lw
end Go.Proofs.YtdacgdokbfcgdaaGreat
