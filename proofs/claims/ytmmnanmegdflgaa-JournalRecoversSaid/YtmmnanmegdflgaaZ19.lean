/-
  Plain laws, no program in sight: checkpoints (chapter 42).
  Contracts: SameRegistry of the reference (chapter 42).
  Contracts: slices.Equal at capacities and at placed guests, Same of the program (chapter 42).
  Contracts: Parse, Append of the program (chapter 42).
  Contracts: Recover of the program (chapter 42).
-/
import Derived.Test.YtmmnanmegdflgaaZ18
import Derived.Test.YtmmnanmegdflgaaZ6
import Derived.Test.YtmmnanmegdflgaaZ5
namespace Go.Proofs.Ytmmnanmegdflgaa.Jn
set_option linter.unusedVariables false
open Ad Lg Uv
noncomputable def sameR (r q : Reg) : Bool := @decide (r = q) (Classical.propDecidable _)
theorem sameR_iff {r q : Reg} : sameR r q = true ↔ r = q := by unfold sameR; simp
theorem sameR_no {r q : Reg} (h : ¬ r = q) : sameR r q = false := by unfold sameR; simp [h]
theorem sameR_yes {r q : Reg} (h : r = q) : sameR r q = true := sameR_iff.2 h
def hOp (i : Nat) (c : Cap) : Man := ⟨4, ⟨#[]⟩, i, 0, ⟨0, 0, 0, 0⟩, c⟩
def upC (c : Cap) : Cap := ⟨c.m, c.c, true⟩
def gOp (p : Pl) : Man := ⟨1, p.nm, p.a, p.b, p.d, ⟨0, 0, false⟩⟩
def upOps : Nat → List Cap → List Man
  | _, [] => []
  | i, c :: H => hOp i (upC c) :: upOps (i + 1) H
def dnOps : Nat → List Cap → List Man
  | _, [] => []
  | i, c :: H => if c.up = true then dnOps (i + 1) H else hOp i c :: dnOps (i + 1) H
theorem upOps_snoc (H : List Cap) (c : Cap) : ∀ i, upOps i (H ++ [c]) = upOps i H ++ [hOp (i + H.length) (upC c)] := by
  induction H with
  | nil => intro i; simp [upOps]
  | cons x H ih => intro i; simp only [List.cons_append, upOps, ih, List.length_cons]; rw [show i + 1 + H.length = i + (H.length + 1) by omega]
theorem dnOps_snoc (H : List Cap) (c : Cap) : ∀ i, dnOps i (H ++ [c]) = dnOps i H ++ (if c.up = true then [] else [hOp (i + H.length) c]) := by
  induction H with
  | nil => intro i; simp only [List.nil_append, dnOps, List.length_nil, Nat.add_zero]
  | cons x H ih =>
    intro i
    simp only [List.cons_append, dnOps, ih, List.length_cons]
    rw [show i + 1 + H.length = i + (H.length + 1) by omega]
    cases x.up <;> simp
theorem upOps_at {H : List Cap} {k : Nat} {c : Cap} (h : H[k]? = some c) : upOps 0 (H.take (k + 1)) = upOps 0 (H.take k) ++ [hOp k (upC c)] := by
  obtain ⟨hk, rfl⟩ := List.getElem?_eq_some_iff.1 h
  rw [List.take_succ_eq_append_getElem hk, upOps_snoc, List.length_take, Nat.zero_add, Nat.min_eq_left (by omega)]
theorem dnOps_at {H : List Cap} {k : Nat} {c : Cap} (h : H[k]? = some c) : dnOps 0 (H.take (k + 1)) = dnOps 0 (H.take k) ++ (if c.up = true then [] else [hOp k c]) := by
  obtain ⟨hk, rfl⟩ := List.getElem?_eq_some_iff.1 h
  rw [List.take_succ_eq_append_getElem hk, dnOps_snoc, List.length_take, Nat.zero_add, Nat.min_eq_left (by omega)]
theorem dn_up {H : List Cap} {k : Nat} {c : Cap} (h : H[k]? = some c) (hu : c.up = true) : dnOps 0 (H.take (k + 1)) = dnOps 0 (H.take k) := by rw [dnOps_at h, if_pos hu, List.append_nil]
theorem dn_dn {H : List Cap} {k : Nat} {c : Cap} (h : H[k]? = some c) (hu : c.up = false) : dnOps 0 (H.take (k + 1)) = dnOps 0 (H.take k) ++ [hOp k c] := by rw [dnOps_at h, if_neg (by rw [hu]; decide)]
theorem gOps_at {L : List Pl} {k : Nat} {p : Pl} (h : L[k]? = some p) : (L.take (k + 1)).map gOp = (L.take k).map gOp ++ [gOp p] := by
  obtain ⟨hk, rfl⟩ := List.getElem?_eq_some_iff.1 h
  rw [List.take_succ_eq_append_getElem hk, List.map_append]; rfl
theorem upOps_len : ∀ (H : List Cap) (i : Nat), (upOps i H).length = H.length
  | [], _ => rfl
  | c :: H, i => by simp [upOps, upOps_len H]
theorem dnOps_len : ∀ (H : List Cap) (i : Nat), (dnOps i H).length ≤ H.length
  | [], _ => Nat.le_refl _
  | c :: H, i => by have := dnOps_len H (i + 1); unfold dnOps; split <;> simp <;> omega
/-- The operations that build a registry. -/
def upG (r : Reg) : List Man := upOps 0 r.hs ++ r.gs.map gOp
def chkOps (r : Reg) : List Man := upG r ++ dnOps 0 r.hs
def chkL (r : Reg) : List UInt8 := recs 0 (chkOps r)
noncomputable def chkOk (r : Reg) : Bool := validR r && (decide ((chkL r).length ≤ 8192) && sameR (recov (chkOps r)) r)
noncomputable def chk (r : Reg) : List UInt8 := if chkOk r = true then chkL r else []
theorem chk_bad {r : Reg} (h : validR r = false) : chkOk r = false := by unfold chkOk; rw [h]; rfl
theorem chk_long {r : Reg} (h : ¬ (chkL r).length ≤ 8192) : chkOk r = false := by unfold chkOk; rw [decide_eq_false h, Bool.false_and, Bool.and_false]
theorem chk_same {r : Reg} (hv : validR r = true) (h : (chkL r).length ≤ 8192) : chkOk r = sameR (recov (chkOps r)) r := by unfold chkOk; rw [hv, decide_eq_true h]; rfl
theorem chk_yes {r : Reg} (h : chkOk r = true) : chk r = chkL r := if_pos h
theorem chk_no {r : Reg} (h : chkOk r = false) : chk r = [] := if_neg (by rw [h]; decide)
theorem chkOps_len {r : Reg} (h : VR r) : (chkOps r).length ≤ 20 := by
  unfold chkOps upG
  rw [List.length_append, List.length_append, List.length_map, upOps_len]
  have := dnOps_len r.hs 0
  have := h.hl
  have := h.gl
  omega
/-- Small operations. -/
structure Sml (o : Man) : Prop where
  ok : Ok o
  nm : o.nm.size ≤ 12
theorem nm_len (s : ByteArray) : s.data.toList.length = s.size := by simp
theorem Sml.fit {o : Man} (h : Sml o) : Fit o := ⟨h.ok, by rw [nm_len]; have := h.nm; omega⟩
theorem in_small {x : Int} (h0 : 0 ≤ x) (h : x ≤ 1000000000) : In x := ⟨by omega, by omega⟩
theorem hOp_sml {i : Nat} {c : Cap} (hi : i ≤ 6) (hc : vh c.m c.c = true) : Sml (hOp i c) := by
  obtain ⟨h1, h2⟩ := vh_bd hc
  refine ⟨⟨in_small (by simp [hOp]) (by simp [hOp]), ?_, by simp [hOp]⟩, by simp [hOp, ByteArray.size]⟩
  intro x hx
  simp only [nums, hOp, List.mem_cons, List.not_mem_nil, or_false] at hx
  rcases hx with rfl | rfl | rfl | rfl | rfl | rfl | rfl | rfl | rfl
  · exact in_small (by omega) (by omega)
  · exact in_small (by omega) (by omega)
  · exact in_small (by omega) (by omega)
  · exact in_small (by omega) (by omega)
  · exact in_small (by omega) (by omega)
  · exact in_small (by omega) (by omega)
  · exact in_small (by omega) (by omega)
  · exact in_small (by omega) (by omega)
  · exact upZ_in _
theorem gOp_sml {n : Nat} {p : Pl} (hn : n ≤ 6) (hp : okG n p = true) (hg : p.d.g ≤ 9223372036854775807) : Sml (gOp p) := by
  obtain ⟨h1, h2, h3, h4, h5⟩ := okG_parts hp
  have hd := vd_bd h2
  have ha := there_iff.1 h3
  have hb := there_iff.1 h4
  unfold named at h1
  simp only [Bool.and_eq_true, decide_eq_true_eq] at h1
  refine ⟨⟨in_small (by simp [gOp]) (by simp [gOp]), ?_, by rw [nm_len]; simp only [gOp]; omega⟩, h1.2⟩
  intro x hx
  simp only [nums, gOp, List.mem_cons, List.not_mem_nil, or_false] at hx
  rcases hx with rfl | rfl | rfl | rfl | rfl | rfl | rfl | rfl | rfl
  · exact in_small (by omega) (by omega)
  · exact in_small (by omega) (by omega)
  · exact in_small (by omega) (by omega)
  · exact in_small (by omega) (by omega)
  · exact in_small (by omega) (by omega)
  · exact ⟨by omega, by omega⟩
  · exact in_small (by omega) (by omega)
  · exact in_small (by omega) (by omega)
  · exact upZ_in _
/-- The groups are numbers of the language. -/
def Grp (r : Reg) : Prop := ∀ p ∈ r.gs, p.d.g ≤ 9223372036854775807
theorem upOps_sml : ∀ (H : List Cap) (i : Nat), i + H.length ≤ 6 → (∀ c ∈ H, vh c.m c.c = true) → ∀ o ∈ upOps i H, Sml o
  | [], _, _, _ => by intro o ho; simp [upOps] at ho
  | c :: H, i, hi, hc => by
    intro o ho
    simp only [List.length_cons] at hi
    simp only [upOps, List.mem_cons] at ho
    rcases ho with rfl | ho
    · exact hOp_sml (by omega) (hc c (by simp))
    · exact upOps_sml H (i + 1) (by omega) (fun c hc' => hc c (by simp [hc'])) o ho
theorem dnOps_sml : ∀ (H : List Cap) (i : Nat), i + H.length ≤ 6 → (∀ c ∈ H, vh c.m c.c = true) → ∀ o ∈ dnOps i H, Sml o
  | [], _, _, _ => by intro o ho; simp [dnOps] at ho
  | c :: H, i, hi, hc => by
    intro o ho
    simp only [List.length_cons] at hi
    have ih := dnOps_sml H (i + 1) (by omega) (fun c hc' => hc c (by simp [hc']))
    unfold dnOps at ho
    split at ho
    · exact ih o ho
    · rcases List.mem_cons.1 ho with rfl | ho
      · exact hOp_sml (by omega) (hc c (by simp))
      · exact ih o ho
theorem chk_sml {r : Reg} (h : VR r) (hg : Grp r) : ∀ o ∈ chkOps r, Sml o := by
  intro o ho
  have := h.hl
  unfold chkOps upG at ho
  rcases List.mem_append.1 ho with ho | ho
  · rcases List.mem_append.1 ho with ho | ho
    · exact upOps_sml r.hs 0 (by omega) h.okh o ho
    · obtain ⟨p, hp, rfl⟩ := List.mem_map.1 ho
      exact gOp_sml this (h.okg p hp) (hg p hp)
  · exact dnOps_sml r.hs 0 (by omega) h.okh o ho
theorem sml_enc {o : Man} (h : Sml o) : (enc o).length ≤ 200 := by
  have h1 := put_len (u64 o.k) (u64_lt _)
  have h0 := h.nm
  have e : o.nm.data.toList.length = o.nm.size := by simp
  have h2 := put_len o.nm.data.toList.length (by omega)
  have h3 := encN_len (nums o)
  have h4 : (nums o).length = 9 := rfl
  unfold enc encH
  simp only [List.length_append]
  omega
theorem sml_rec {o : Man} {n : Nat} (h : Sml o) (hn : n < 18446744073709551616) : (record n o).length ≤ 300 := by
  have h1 := sml_enc h
  have h2 := sealed_len n o hn (by omega)
  have h3 := put_len (sealed n o).length (by omega)
  unfold record
  rw [List.length_append]
  omega
theorem sml_recs : ∀ (L : List Man) (n : Nat), n + L.length < 18446744073709551616 → (∀ o ∈ L, Sml o) → (recs n L).length ≤ 300 * L.length
  | [], _, _, _ => by simp [recs]
  | o :: L, n, hn, h => by
    simp only [List.length_cons] at hn ⊢
    have h1 := sml_rec (n := n) (h o (by simp)) (by omega)
    have h2 := sml_recs L (n + 1) (by omega) (fun o ho => h o (by simp [ho]))
    simp only [recs, List.length_append]
    omega
theorem chkL_len {r : Reg} (h : VR r) (hg : Grp r) : (chkL r).length ≤ 6000 := by
  have h1 := chkOps_len h
  have h2 := sml_recs (chkOps r) 0 (by omega) (chk_sml h hg)
  unfold chkL
  omega
theorem parse_all {L : List Man} (h : ∀ o ∈ L, Fit o) (hl : L.length < 18446744073709551616) : (parse (recs 0 L)).1 = L ∧ (parse (recs 0 L)).2 = [] := by
  have := parse_recs L [] h 0 (by omega)
  rw [List.append_nil, parse_no (nOk_nil _)] at this
  unfold parse
  rw [this]
  simp
theorem used_all {L : List Man} (h : ∀ o ∈ L, Fit o) (hl : L.length < 18446744073709551616) : used (recs 0 L) = (recs 0 L).length := by
  unfold used
  rw [(parse_all h hl).2]; rfl
theorem chk_parse {r : Reg} (h : VR r) (hg : Grp r) : (parse (chkL r)).1 = chkOps r := (parse_all (fun o ho => (chk_sml h hg o ho).fit) (by have := chkOps_len h; omega)).1
/-- How the reference appends. -/
theorem recs_take {L : List Man} {k : Nat} {o : Man} (h : L[k]? = some o) : recs 0 (L.take (k + 1)) = recs 0 (L.take k) ++ record k o := by
  obtain ⟨hk, rfl⟩ := List.getElem?_eq_some_iff.1 h
  rw [List.take_succ_eq_append_getElem hk, recs_snoc, List.length_take, Nat.zero_add, Nat.min_eq_left (by omega)]
theorem recs_mono (L : List Man) (k : Nat) : (recs 0 (L.take k)).length ≤ (recs 0 L).length := by
  have := recs_app (L.take k) (L.drop k) 0
  rw [List.take_append_drop] at this
  rw [this, List.length_append]
  omega
end Go.Proofs.Ytmmnanmegdflgaa.Jn

set_option linter.unusedVariables false
set_option linter.unusedSimpArgs false
set_option maxRecDepth 100000
namespace Go.Proofs.Ytmmnanmegdflgaa
open Go.RowKit Go.BigFrame Go.Sort
namespace Jn
open Ad Adm Law39
noncomputable def eqB {α : Type} (x y : α) : Bool := @decide (x = y) (Classical.propDecidable _)
theorem eqB_iff {α : Type} {x y : α} : eqB x y = true ↔ x = y := by unfold eqB; simp
theorem eqB_no {α : Type} {x y : α} (h : eqB x y = false) : ¬ x = y := by intro e; rw [eqB_iff.2 e] at h; cases h
/-- The lists agree up to k. -/
def agree {α : Type} (L M : List α) (k : Nat) : Prop := ∀ i, i < k → L[i]? = M[i]?
theorem agree_zero {α : Type} (L M : List α) : agree L M 0 := fun i h => absurd h (Nat.not_lt_zero i)
theorem agree_step {α : Type} {L M : List α} {k : Nat} {x y : α} (h : agree L M k) (h1 : L[k]? = some x) (h2 : M[k]? = some y) (e : x = y) : agree L M (k + 1) := by
  intro i hi
  rcases Nat.lt_succ_iff_lt_or_eq.1 hi with h3 | rfl
  · exact h i h3
  · rw [h1, h2, e]
theorem agree_all {α : Type} {L M : List α} {n : Nat} (h : agree L M n) (h1 : L.length = n) (h2 : M.length = n) : L = M := by
  apply List.ext_getElem?
  intro i
  by_cases hi : i < n
  · exact h i hi
  · rw [List.getElem?_eq_none (by omega), List.getElem?_eq_none (by omega)]

set_option maxHeartbeats 4000000 in
theorem same_ref_any (HA : Option Addr) (hn hc : Nat) (GA : Option Addr) (gn gc : Nat) (HA2 : Option Addr) (hn2 hc2 : Nat) (GA2 : Option Addr) (gn2 gc2 : Nat) (r q : Reg) (w : World) (h1 : RegR w HA hn GA gn r) (h2 : RegR w HA2 hn2 GA2 gn2 q) (hhn : (hn : Int) ≤ 1000000) (hgn : (gn : Int) ≤ 1000000) :
    Calls Try.prog 15 #[.agg #[.slice HA hn hc, .slice GA gn gc], .agg #[.slice HA2 hn2 hc2, .slice GA2 gn2 gc2]] w fun e w' => e = .returned (.bool (sameR r q)) ∧ Held w w' := by
  have H1 := Lib.hid h1
  have H2 := Lib.hid h2
  have L1 : Is r.hs.length hn := ⟨h1.hs.1⟩
  have L2 : Is r.gs.length gn := ⟨h1.gs.1⟩
  have L3 : Is q.hs.length hn2 := ⟨h2.hs.1⟩
  have L4 : Is q.gs.length gn2 := ⟨h2.gs.1⟩
  clear h1 h2
  have M0 := Lib.hid (((Mem.start w).alloc #[.slice HA hn hc, .slice GA gn gc] 37).alloc' (b := w.heap.size + 1) (by simp) #[.slice HA2 hn2 hc2, .slice GA2 gn2 gc2] 37)
  by_cases hh : hn = hn2
  rotate_left
  · have HX : Is (sameR r q) false := ⟨sameR_no (by rintro rfl; exact hh (L1.out.symm.trans L3.out))⟩
    have hne : ((hn : Int) != hn2) = true := by simp; omega
    have hn2' : (hn != hn2) = true := by simp; omega
    go_enter Try.func15, Try.ntmps15
    go_wp2
    go_ret
    exact ⟨by rw [HX.out]; rfl, M0.out.held⟩
  subst hh
  by_cases hg : gn = gn2
  rotate_left
  · have HX : Is (sameR r q) false := ⟨sameR_no (by rintro rfl; exact hg (L2.out.symm.trans L4.out))⟩
    have hne : ((gn : Int) != gn2) = true := by simp; omega
    have hn2' : (gn != gn2) = true := by simp; omega
    go_enter Try.func15, Try.ntmps15
    go_wp2
    go_ret
    exact ⟨by rw [HX.out]; rfl, M0.out.held⟩
  subst hg
  go_enter Try.func15, Try.ntmps15
  go_wp2
  go_loopw [5] (fun i wr => ∃ k : Nat, i = .int .i64 k ∧ k ≤ hn ∧ Mem w wr [.box w.heap.size #[.slice HA hn hc, .slice GA gn gc] 37, .box (w.heap.size + 1) #[.slice HA2 hn hc2, .slice GA2 gn gc2] 37] ∧ agree r.hs q.hs k) (fun i _ => hn - (intOf i).toNat)
  case atStart => exact ⟨0, rfl, Nat.zero_le _, M0.out, agree_zero _ _⟩
  case round =>
    obtain ⟨k, rfl, hk, hM, hag⟩ := hrel
    obtain ⟨wA, rfl⟩ : ∃ wA : World, wA = wr := ⟨_, rfl⟩
    have M3 := Lib.hid hM
    have HG := Lib.hid hag
    clear hM hag M0
    obtain ⟨⟨a0, a1⟩, ⟨af0, af1⟩, alt⟩ := M3.out.box2 0 rfl
    obtain ⟨⟨b0, b1⟩, ⟨bf0, bf1⟩, blt⟩ := M3.out.box2 1 rfl
    by_cases hlt : (k : Int) < hn
    · obtain ⟨p, off, x, rfl, lp, hx, hc1⟩ := H1.out.hs.at_ M3.out.held (k := k) (by omega)
      obtain ⟨p', off', y, rfl, lp', hy, hc2⟩ := H2.out.hs.at_ M3.out.held (k := k) (by omega)
      have x0 := hc1 0 _ rfl
      have x1 := hc1 1 _ rfl
      have x2 := hc1 2 _ rfl
      rw [Nat.add_zero] at x0
      have y0 := hc2 0 _ rfl
      have y1 := hc2 1 _ rfl
      have y2 := hc2 2 _ rfl
      rw [Nat.add_zero] at y0
      have HX := Lib.hid hx
      have HY := Lib.hid hy
      clear hc1 hc2 hx hy
      have k0 : ¬ (k : Int) < 0 := by omega
      by_cases hxy : x = y
      · have hne := fun w' => run_neq_cap (x := x) (y := y) (q := true) ⟨fun _ => hxy, fun _ => rfl⟩ w'
        simp only [Bool.not_true] at hne
        have HE := Lib.hid hxy
        clear hxy
        go_wp2
        go_big_quiet (fail)
        go_wp2
        go_roundw
        case rel => exact ⟨k + 1, by go_num, by omega, M3.out.keep ((Held.refl _).drewN _), agree_step HG.out HX.out HY.out HE.out⟩
        case measure => (simp [intOf]) <;> omega
      · have HR : Is (sameR r q) false := ⟨sameR_no (by rintro rfl; rw [HX.out] at HY; exact hxy (Option.some.inj HY.out))⟩
        have hne := fun w' => run_neq_cap (x := x) (y := y) (q := false) ⟨fun e => absurd e (by decide), fun e => absurd e hxy⟩ w'
        simp only [Bool.not_false] at hne
        clear hxy
        go_wp2
        go_big_quiet (fail)
        go_wp2
        go_ret
        exact ⟨by rw [HR.out]; rfl, (M3.out.keep ((Held.refl _).drewN _)).held⟩
    · have HAG := Lib.hid (agree_all (n := hn) (by rw [← (show k = hn by omega)]; exact HG.out) L1.out L3.out)
      go_wp2
      clear a0 a1 af0 af1 alt b0 b1 bf0 bf1 blt
      go_loopw [6] (fun i wr => ∃ j : Nat, i = .int .i64 j ∧ j ≤ gn ∧ Mem w wr [.box w.heap.size #[.slice HA hn hc, .slice GA gn gc] 37, .box (w.heap.size + 1) #[.slice HA2 hn hc2, .slice GA2 gn gc2] 37] ∧ agree r.gs q.gs j) (fun i _ => gn - (intOf i).toNat)
      case atStart => exact ⟨0, rfl, Nat.zero_le _, M3.out, agree_zero _ _⟩
      case round =>
        obtain ⟨j, rfl, hj, hM, hag⟩ := hrel
        have M4 := Lib.hid hM
        have HG := Lib.hid hag
        clear hM hag M3
        obtain ⟨⟨a0, a1⟩, ⟨af0, af1⟩, alt⟩ := M4.out.box2 0 rfl
        obtain ⟨⟨b0, b1⟩, ⟨bf0, bf1⟩, blt⟩ := M4.out.box2 1 rfl
        by_cases hlt2 : (j : Int) < gn
        · obtain ⟨p, off, x, rfl, lp, hx, hc1⟩ := H1.out.gs.at_ M4.out.held (k := j) (by omega)
          obtain ⟨p', off', y, rfl, lp', hy, hc2⟩ := H2.out.gs.at_ M4.out.held (k := j) (by omega)
          have x0 := hc1 0 _ rfl
          have x1 := hc1 1 _ rfl
          have x2 := hc1 2 _ rfl
          have x3 := hc1 3 _ rfl
          have x4 := hc1 4 _ rfl
          have x5 := hc1 5 _ rfl
          have x6 := hc1 6 _ rfl
          rw [Nat.add_zero] at x0
          have y0 := hc2 0 _ rfl
          have y1 := hc2 1 _ rfl
          have y2 := hc2 2 _ rfl
          have y3 := hc2 3 _ rfl
          have y4 := hc2 4 _ rfl
          have y5 := hc2 5 _ rfl
          have y6 := hc2 6 _ rfl
          rw [Nat.add_zero] at y0
          have HX := Lib.hid hx
          have HY := Lib.hid hy
          clear hc1 hc2 hx hy
          have k0 : ¬ (j : Int) < 0 := by omega
          by_cases hxy : x = y
          · have hne := fun w' => run_neq_pl (x := x) (y := y) (q := true) ⟨fun _ => hxy, fun _ => rfl⟩ w'
            simp only [Bool.not_true] at hne
            have HE := Lib.hid hxy
            clear hxy
            go_wp2
            go_big_quiet (fail)
            go_wp2
            go_roundw
            case rel => exact ⟨j + 1, by go_num, by omega, M4.out.keep ((Held.refl _).drewN _), agree_step HG.out HX.out HY.out HE.out⟩
            case measure => (simp [intOf]) <;> omega
          · have HR : Is (sameR r q) false := ⟨sameR_no (by rintro rfl; rw [HX.out] at HY; exact hxy (Option.some.inj HY.out))⟩
            have hne := fun w' => run_neq_pl (x := x) (y := y) (q := false) ⟨fun e => absurd e (by decide), fun e => absurd e hxy⟩ w'
            simp only [Bool.not_false] at hne
            clear hxy
            go_wp2
            go_big_quiet (fail)
            go_wp2
            go_ret
            exact ⟨by rw [HR.out]; rfl, (M4.out.keep ((Held.refl _).drewN _)).held⟩
        · have HS : Is (sameR r q) true := ⟨sameR_yes (by
            have h2 := agree_all (n := gn) (by rw [← (show j = gn by omega)]; exact HG.out) L2.out L4.out
            have h1 := HAG.out
            cases r; cases q; simp only at h1 h2; rw [h1, h2])⟩
          go_wp2
          go_ret
          exact ⟨by rw [HS.out]; rfl, M4.out.held⟩
end Jn
end Go.Proofs.Ytmmnanmegdflgaa

set_option linter.unusedVariables false
set_option linter.unusedSimpArgs false
set_option maxRecDepth 100000
namespace Go.Proofs.Ytmmnanmegdflgaa
open Go.RowKit Go.BigFrame Go.Sort
namespace Jn
open Ad Adm Law39
theorem eqB_yes {α : Type} {x y : α} (h : x = y) : eqB x y = true := eqB_iff.2 h
theorem eqB_not {α : Type} {x y : α} (h : ¬ x = y) : eqB x y = false := by
  cases e : eqB x y
  · rfl
  · exact absurd (eqB_iff.1 e) h
theorem sameR_and (r q : Reg) : sameR r q = (eqB r.hs q.hs && eqB r.gs q.gs) := by
  obtain ⟨h1, g1⟩ := r
  obtain ⟨h2, g2⟩ := q
  by_cases e1 : h1 = h2
  · subst e1
    by_cases e2 : g1 = g2
    · subst e2
      rw [sameR_yes rfl, eqB_yes rfl, eqB_yes rfl]; rfl
    · rw [eqB_not (x := g1) e2, Bool.and_false]
      exact sameR_no (by intro h; injection h with _ h; exact e2 h)
  · rw [eqB_not (x := h1) e1, Bool.false_and]
    exact sameR_no (by intro h; injection h with h _; exact e1 h)
set_option maxHeartbeats 4000000 in
theorem equal_cap_any (A : Option Addr) (n c : Nat) (A2 : Option Addr) (n2 c2 : Nat) (L M : List Cap) (w : World) (h1 : Sl 3 capC w A n L) (h2 : Sl 3 capC w A2 n2 M) (hn : (n : Int) ≤ 1000000) :
    Calls Try.prog 63 #[.slice A n c, .slice A2 n2 c2] w fun e w' => e = .returned (.bool (eqB L M)) ∧ Held w w' := by
  have H1 := Lib.hid h1
  have H2 := Lib.hid h2
  have L1 : Is L.length n := ⟨h1.1⟩
  have L2 : Is M.length n2 := ⟨h2.1⟩
  clear h1 h2
  by_cases hh : n = n2
  rotate_left
  · have HX : Is (eqB L M) false := ⟨eqB_not (by rintro rfl; exact hh (L1.out.symm.trans L2.out))⟩
    have hne : ((n : Int) != n2) = true := by simp; omega
    have hn2' : (n != n2) = true := by simp; omega
    go_enter Try.func63, Try.ntmps63
    go_wp2
    go_ret
    exact ⟨by rw [HX.out]; rfl, Held.refl _⟩
  subst hh
  go_enter Try.func63, Try.ntmps63
  go_wp2
  go_loopw [13] (fun i wr => ∃ k : Nat, i = .int .i64 k ∧ k ≤ n ∧ Held w wr ∧ agree L M k) (fun i _ => n - (intOf i).toNat)
  case atStart => exact ⟨0, rfl, Nat.zero_le _, Held.refl _, agree_zero _ _⟩
  case round =>
    obtain ⟨k, rfl, hk, hW, hag⟩ := hrel
    have HW := Lib.hid hW
    have HG := Lib.hid hag
    clear hW hag
    by_cases hlt : (k : Int) < n
    · obtain ⟨p, off, x, rfl, lp, hx, hc1⟩ := H1.out.at_ HW.out (k := k) (by omega)
      obtain ⟨p', off', y, rfl, lp', hy, hc2⟩ := H2.out.at_ HW.out (k := k) (by omega)
      have x0 := hc1 0 _ rfl
      have x1 := hc1 1 _ rfl
      have x2 := hc1 2 _ rfl
      rw [Nat.add_zero] at x0
      have y0 := hc2 0 _ rfl
      have y1 := hc2 1 _ rfl
      have y2 := hc2 2 _ rfl
      rw [Nat.add_zero] at y0
      have HX := Lib.hid hx
      have HY := Lib.hid hy
      clear hc1 hc2 hx hy
      have k0 : ¬ (k : Int) < 0 := by omega
      by_cases hxy : x = y
      · have hne := fun w' => run_neq_cap (x := x) (y := y) (q := true) ⟨fun _ => hxy, fun _ => rfl⟩ w'
        simp only [Bool.not_true] at hne
        have HE := Lib.hid hxy
        clear hxy
        go_wp2
        go_big_quiet (fail)
        go_wp2
        go_roundw
        case rel => exact ⟨k + 1, by go_num, by omega, HW.out.step ((Held.refl _).drewN _), agree_step HG.out HX.out HY.out HE.out⟩
        case measure => (simp [intOf]) <;> omega
      · have HR : Is (eqB L M) false := ⟨eqB_not (by rintro rfl; rw [HX.out] at HY; exact hxy (Option.some.inj HY.out))⟩
        have hne := fun w' => run_neq_cap (x := x) (y := y) (q := false) ⟨fun e => absurd e (by decide), fun e => absurd e hxy⟩ w'
        simp only [Bool.not_false] at hne
        clear hxy
        go_wp2
        go_big_quiet (fail)
        go_wp2
        go_ret
        exact ⟨by rw [HR.out]; rfl, HW.out.step ((Held.refl _).drewN _)⟩
    · have HA : Is (eqB L M) true := ⟨eqB_yes (agree_all (n := n) (by rw [← (show k = n by omega)]; exact HG.out) L1.out L2.out)⟩
      go_wp2
      go_ret
      exact ⟨by rw [HA.out]; rfl, HW.out⟩
set_option maxHeartbeats 4000000 in
theorem equal_pl_any (A : Option Addr) (n c : Nat) (A2 : Option Addr) (n2 c2 : Nat) (L M : List Pl) (w : World) (h1 : Sl 7 plC w A n L) (h2 : Sl 7 plC w A2 n2 M) (hn : (n : Int) ≤ 1000000) :
    Calls Try.prog 64 #[.slice A n c, .slice A2 n2 c2] w fun e w' => e = .returned (.bool (eqB L M)) ∧ Held w w' := by
  have H1 := Lib.hid h1
  have H2 := Lib.hid h2
  have L1 : Is L.length n := ⟨h1.1⟩
  have L2 : Is M.length n2 := ⟨h2.1⟩
  clear h1 h2
  by_cases hh : n = n2
  rotate_left
  · have HX : Is (eqB L M) false := ⟨eqB_not (by rintro rfl; exact hh (L1.out.symm.trans L2.out))⟩
    have hne : ((n : Int) != n2) = true := by simp; omega
    have hn2' : (n != n2) = true := by simp; omega
    go_enter Try.func64, Try.ntmps64
    go_wp2
    go_ret
    exact ⟨by rw [HX.out]; rfl, Held.refl _⟩
  subst hh
  go_enter Try.func64, Try.ntmps64
  go_wp2
  go_loopw [13] (fun i wr => ∃ k : Nat, i = .int .i64 k ∧ k ≤ n ∧ Held w wr ∧ agree L M k) (fun i _ => n - (intOf i).toNat)
  case atStart => exact ⟨0, rfl, Nat.zero_le _, Held.refl _, agree_zero _ _⟩
  case round =>
    obtain ⟨k, rfl, hk, hW, hag⟩ := hrel
    have HW := Lib.hid hW
    have HG := Lib.hid hag
    clear hW hag
    by_cases hlt : (k : Int) < n
    · obtain ⟨p, off, x, rfl, lp, hx, hc1⟩ := H1.out.at_ HW.out (k := k) (by omega)
      obtain ⟨p', off', y, rfl, lp', hy, hc2⟩ := H2.out.at_ HW.out (k := k) (by omega)
      have x0 := hc1 0 _ rfl
      have x1 := hc1 1 _ rfl
      have x2 := hc1 2 _ rfl
      have x3 := hc1 3 _ rfl
      have x4 := hc1 4 _ rfl
      have x5 := hc1 5 _ rfl
      have x6 := hc1 6 _ rfl
      rw [Nat.add_zero] at x0
      have y0 := hc2 0 _ rfl
      have y1 := hc2 1 _ rfl
      have y2 := hc2 2 _ rfl
      have y3 := hc2 3 _ rfl
      have y4 := hc2 4 _ rfl
      have y5 := hc2 5 _ rfl
      have y6 := hc2 6 _ rfl
      rw [Nat.add_zero] at y0
      have HX := Lib.hid hx
      have HY := Lib.hid hy
      clear hc1 hc2 hx hy
      have k0 : ¬ (k : Int) < 0 := by omega
      by_cases hxy : x = y
      · have hne := fun w' => run_neq_pl (x := x) (y := y) (q := true) ⟨fun _ => hxy, fun _ => rfl⟩ w'
        simp only [Bool.not_true] at hne
        have HE := Lib.hid hxy
        clear hxy
        go_wp2
        go_big_quiet (fail)
        go_wp2
        go_roundw
        case rel => exact ⟨k + 1, by go_num, by omega, HW.out.step ((Held.refl _).drewN _), agree_step HG.out HX.out HY.out HE.out⟩
        case measure => (simp [intOf]) <;> omega
      · have HR : Is (eqB L M) false := ⟨eqB_not (by rintro rfl; rw [HX.out] at HY; exact hxy (Option.some.inj HY.out))⟩
        have hne := fun w' => run_neq_pl (x := x) (y := y) (q := false) ⟨fun e => absurd e (by decide), fun e => absurd e hxy⟩ w'
        simp only [Bool.not_false] at hne
        clear hxy
        go_wp2
        go_big_quiet (fail)
        go_wp2
        go_ret
        exact ⟨by rw [HR.out]; rfl, HW.out.step ((Held.refl _).drewN _)⟩
    · have HA : Is (eqB L M) true := ⟨eqB_yes (agree_all (n := n) (by rw [← (show k = n by omega)]; exact HG.out) L1.out L2.out)⟩
      go_wp2
      go_ret
      exact ⟨by rw [HA.out]; rfl, HW.out⟩
set_option maxHeartbeats 4000000 in
theorem same_any (HA : Option Addr) (hn hc : Nat) (GA : Option Addr) (gn gc : Nat) (HA2 : Option Addr) (hn2 hc2 : Nat) (GA2 : Option Addr) (gn2 gc2 : Nat) (r q : Reg) (w : World) (h1 : RegR w HA hn GA gn r) (h2 : RegR w HA2 hn2 GA2 gn2 q) (hhn : (hn : Int) ≤ 1000000) (hgn : (gn : Int) ≤ 1000000) :
    Calls Try.prog 29 #[.agg #[.slice HA hn hc, .slice GA gn gc], .agg #[.slice HA2 hn2 hc2, .slice GA2 gn2 gc2]] w fun e w' => e = .returned (.bool (sameR r q)) ∧ Held w w' := by
  obtain ⟨v1, V1⟩ : ∃ v, Is (eqB r.hs q.hs) v := ⟨_, ⟨rfl⟩⟩
  obtain ⟨v2, V2⟩ : ∃ v, Is (eqB r.gs q.gs) v := ⟨_, ⟨rfl⟩⟩
  have HS : Is (sameR r q) (v1 && v2) := ⟨by rw [sameR_and, V1.out, V2.out]⟩
  have H1 := Lib.hid fun (w' : World) (k : Held w w') => equal_cap_any HA hn hc HA2 hn2 hc2 r.hs q.hs w' (h1.hs.held k) (h2.hs.held k) hhn
  have H2 := Lib.hid fun (w' : World) (k : Held w w') => equal_pl_any GA gn gc GA2 gn2 gc2 r.gs q.gs w' (h1.gs.held k) (h2.gs.held k) hgn
  rw [V1.out] at H1
  rw [V2.out] at H2
  clear h1 h2
  have M0 := Lib.hid (((Mem.start w).alloc #[.slice HA hn hc, .slice GA gn gc] 37).alloc' (b := w.heap.size + 1) (by simp) #[.slice HA2 hn2 hc2, .slice GA2 gn2 gc2] 37)
  cases v1
  · go_enter Try.func29, Try.ntmps29
    go_wp2_with (go_at_call 63; refine (H1.out _ M0.out.held).mono ?_; rintro e w2 ⟨rfl, k2⟩)
    go_ret
    exact ⟨by rw [HS.out]; rfl, M0.out.held.step k2⟩
  · go_enter Try.func29, Try.ntmps29
    go_wp2_with fail
    refine (H1.out _ M0.out.held).mono ?_
    rintro e w2 ⟨rfl, k2⟩
    have M2 := Lib.hid (M0.out.keep k2)
    obtain ⟨⟨a0, a1⟩, ⟨af0, af1⟩, alt⟩ := M2.out.box2 0 rfl
    obtain ⟨⟨b0, b1⟩, ⟨bf0, bf1⟩, blt⟩ := M2.out.box2 1 rfl
    clear k2 M0
    go_wp2_with (go_at_call 64; refine (H2.out _ M2.out.held).mono ?_; rintro e w3 ⟨rfl, k3⟩)
    go_ret
    exact ⟨by rw [HS.out]; rfl, M2.out.held.step k3⟩
end Jn
end Go.Proofs.Ytmmnanmegdflgaa

set_option linter.unusedVariables false
set_option linter.unusedSimpArgs false
set_option maxRecDepth 100000
namespace Go.Proofs.Ytmmnanmegdflgaa
open Go.RowKit Go.Lib
namespace Jn
open Ad Lgc Strs Lg
/-- An operation as the cells of a slice. -/
def manF (o : Man) : List Value := (manC o).toList
theorem manF_len (o : Man) : (manF o).length = 11 := rfl
theorem manF_one (o : Man) : ∀ u ∈ manF o, u.oneCell' = true := by
  intro u hu
  simp only [manF, manC, List.mem_cons, List.not_mem_nil, or_false] at hu
  rcases hu with rfl | rfl | rfl | rfl | rfl | rfl | rfl | rfl | rfl | rfl | rfl <;> rfl
theorem info_man : (Try.prog.info? 27).map (fun i => (i.zero, i.size, i.bytes)) = some (some (.agg #[.int .i64 0, .string ⟨#[]⟩, .int .i64 0, .int .i64 0, .int .i64 0, .int .i64 0, .int .i64 0, .int .i64 0, .int .i64 0, .int .i64 0, .bool false]), 11, 96) := by kernel_rfl
/-- So much has been read. -/
structure Par (l : List UInt8) (L : List Man) (rest : List UInt8) : Prop where
  eq : parse l = (L ++ (parseN L.length rest).1, (parseN L.length rest).2)
  le : L.length + rest.length ≤ l.length
theorem Par.start (l : List UInt8) : Par l [] l := ⟨rfl, by simp⟩
theorem Par.step {l : List UInt8} {L : List Man} {rest : List UInt8} (h : Par l L rest) (hn : nOk rest L.length = true) : Par l (L ++ [nMan rest]) (nRest rest) := by
  have h1 := rest_lt hn
  refine ⟨?_, by have := h.le; rw [List.length_append, List.length_singleton]; omega⟩
  rw [h.eq, parse_yes hn, List.length_append, List.length_singleton, List.append_assoc]; rfl
theorem Par.stop {l : List UInt8} {L : List Man} {rest : List UInt8} (h : Par l L rest) (hn : nOk rest L.length = false) : (parse l).1 = L ∧ (parse l).2 = rest := by
  rw [h.eq, parse_no hn]; simp
/-- A call hands back operations and the number of bytes. -/
def ParseTo (l : List UInt8) (w : World) (e : Ending) (w' : World) : Prop :=
  ∃ v, e = .returned (.tuple #[v, .int .i64 ((used l : Nat) : Int)]) ∧ Own 27 11 manF w.heap.size w' v (parse l).1 ∧ Held w w'
set_option maxHeartbeats 1000000 in
theorem parse_any (s : ByteArray) (hs : (s.size : Int) ≤ 1000000000) (w : World) : Calls Try.prog 23 #[.string s] w (ParseTo s.data.toList w) := by
  obtain ⟨l, hl⟩ : ∃ l, s.data.toList = l := ⟨_, rfl⟩
  have HS := Lib.hid hl
  have hsl := sz_of hl
  rw [hl]
  clear hl
  go_enter Try.func23, Try.ntmps23
  go_wp2
  have M0 := Lib.hid (((Mem.start w).alloc' (b := w.heap.size) rfl #[.string s, .bool false] 60).nilRow (e := 27) (s := 11) (f := manF))
  go_loopw [5, 6] (fun v i wr => ∃ (L : List Man) (sr : ByteArray), Par l L sr.data.toList ∧ i = .int .i64 ((l.length - sr.size : Nat) : Int) ∧ Mem w wr [.box w.heap.size #[.string sr, .bool false] 60, .row 27 11 manF w.heap.size v L]) (fun _ i _ => l.length - (intOf i).toNat)
  case atStart => exact ⟨[], s, by rw [HS.out]; exact Par.start l, by rw [hsl, Nat.sub_self]; rfl, M0.out⟩
  case round =>
    obtain ⟨L, sr, hP, rfl, hM⟩ := hrel
    obtain ⟨A, cap, rfl, hcap, _⟩ := (hM.row 1 rfl).shape
    obtain ⟨rest, hr⟩ : ∃ rest, sr.data.toList = rest := ⟨_, rfl⟩
    have hrl := sz_of hr
    rw [hr] at hP
    have HR := Lib.hid hr
    have HP := Lib.hid hP
    have hle := hP.le
    have M := Lib.hid hM
    obtain ⟨n, hn⟩ : ∃ n, L.length = n := ⟨_, rfl⟩
    have HN := Lib.hid hn
    rw [hn] at hle M hcap ⊢
    clear hr hP hM hn M0
    obtain ⟨ok, HK⟩ : ∃ ok, Is (nOk rest n) ok := ⟨_, ⟨rfl⟩⟩
    have hnx := next_any w.heap.size sr n (by omega) (by omega) _ (M.out.blk 0 rfl)
    unfold NextTo at hnx
    rw [HR.out, HK.out] at hnx
    have HNX := Lib.hid hnx
    clear hnx
    go_wp2_with fail
    refine HNX.out.mono ?_
    rintro e w1 ⟨x, cs, rfl, hg, hb, hy⟩
    have M1 := Lib.hid (M.out.callBox 0 rfl hg hb)
    obtain ⟨xk, xnm, xa, xb, ⟨xr, xl, xc, xg⟩, ⟨xm, xcc, xup⟩⟩ := x
    dsimp only [manC]
    clear M hg hb
    clear HNX
    cases ok
    · go_wp2
      go_ret2
      obtain ⟨s1, s2⟩ := HP.out.stop (by rw [HN.out]; exact HK.out)
      have M2 := M1.out.alloc #[.int .i64 xk, .string xnm, .int .i64 xa, .int .i64 xb, .int .i64 xr, .int .i64 xl, .int .i64 xc, .int .i64 xg, .int .i64 xm, .int .i64 xcc, .bool xup] 27
      refine ⟨_, ?_, by rw [s1]; exact M2.row 1 rfl, M2.held⟩
      unfold used; rw [s2, hrl]; rfl
    · obtain ⟨hx, s2, hs2, rfl⟩ := hy rfl
      have HX : Is (⟨xk, xnm, xa, xb, ⟨xr, xl, xc, xg⟩, ⟨xm, xcc, xup⟩⟩ : Man) (nMan rest) := ⟨hx⟩
      have HS2 := Lib.hid hs2
      have z2 := sz_of hs2
      have hP2 := HP.out.step (by rw [HN.out]; exact HK.out)
      have hle2 := hP2.le
      rw [List.length_append, HN.out, List.length_singleton] at hle2
      have HP2 := Lib.hid hP2
      clear hy hx hs2 hP2
      have M2 := Lib.hid (M1.out.alloc #[.int .i64 xk, .string xnm, .int .i64 xa, .int .i64 xb, .int .i64 xr, .int .i64 xl, .int .i64 xc, .int .i64 xg, .int .i64 xm, .int .i64 xcc, .bool xup] 27)
      clear M1
      go_wp2_with (at_builtin; refine Mem.wp_app (M2.out.skip _) 1 rfl rfl _ _ _ rfl _ 96 Try.underlying54 info_man rfl (by decide) manF_len manF_one ⟨xk, xnm, xa, xb, ⟨xr, xl, xc, xg⟩, ⟨xm, xcc, xup⟩⟩ ⟨w1.heap.size + 1, 0, none⟩ 1 rfl rfl (cells_new _ (by simp) _ _) n HN.out (by omega) (by decide) ?_; intro g4 cp4 w4 M4; have M5 := Lib.hid M4; clear M4; have e0 := M5.out.cell 0 rfl 0 rfl)
      go_roundw
      case rel =>
        refine ⟨L ++ [nMan rest], s2, by rw [HS2.out]; exact HP2.out, ?_, ?_⟩
        · rw [z2]; congr 1; omega
        · have h := M5.out; rw [HX.out] at h; exact h.take 2
      case measure =>
        have hlt := rest_lt HK.out
        simp only [intOf]; omega
/-- A journal with one more record; is there room for it. -/
def appRec (l : List UInt8) (o : Man) : List UInt8 := l ++ record (parse l).1.length o
def appOk (l : List UInt8) (o : Man) : Bool := decide ((appRec l o).length ≤ 8192)
def appd (l : List UInt8) (o : Man) : List UInt8 := if appOk l o = true then appRec l o else l
theorem enc_name (o : Man) : o.nm.size ≤ (enc o).length := by
  have := len_eq o.nm
  unfold enc encH; simp only [List.length_append]; omega
theorem record_enc (n : Nat) (o : Man) : (enc o).length ≤ (record n o).length := by
  unfold record sealed packed; simp only [List.length_append]; omega
theorem appOk_long (l : List UInt8) (o : Man) (h : 8192 < l.length ∨ 8192 < o.nm.size) : appOk l o = false := by
  have h1 := enc_name o
  have h2 := record_enc (parse l).1.length o
  unfold appOk appRec
  rw [List.length_append]
  exact decide_eq_false (by omega)
/-- A call hands back a journal and whether a record was appended. -/
def AppTo (l : List UInt8) (o : Man) (w : World) (e : Ending) (w' : World) : Prop := e = .returned (.tuple #[.string ⟨(appd l o).toArray⟩, .bool (appOk l o)]) ∧ Held w w'
theorem ret_app {s : ByteArray} {l : List UInt8} {b : Bool} (h : s.data.toList = l) : Ending.returned (.tuple #[.string s, .bool b]) = .returned (.tuple #[.string ⟨l.toArray⟩, .bool b]) := by rw [str_mk h]
set_option maxHeartbeats 1000000 in
theorem append_any (s : ByteArray) (hs : (s.size : Int) ≤ 1000000000) (k : Int) (nm : ByteArray) (a b r l c g m cc : Int) (up : Bool) (hnm : (nm.size : Int) ≤ 1000000000) (w : World) :
    Calls Try.prog 17 #[.string s, .agg #[.int .i64 k, .string nm, .int .i64 a, .int .i64 b, .int .i64 r, .int .i64 l, .int .i64 c, .int .i64 g, .int .i64 m, .int .i64 cc, .bool up]] w (AppTo s.data.toList ⟨k, nm, a, b, ⟨r, l, c, g⟩, ⟨m, cc, up⟩⟩ w) := by
  obtain ⟨j, hj⟩ : ∃ j, s.data.toList = j := ⟨_, rfl⟩
  have HS := Lib.hid hj
  have hsl := sz_of hj
  have HP := fun w => Lib.hid (parse_any s hs w)
  rw [hj] at HP ⊢
  clear hj
  have hpl := parse_len j 0
  have hlong : 8192 < j.length ∨ 8192 < nm.size → Is (appOk j ⟨k, nm, a, b, ⟨r, l, c, g⟩, ⟨m, cc, up⟩⟩) false := fun h => ⟨appOk_long j _ h⟩
  have hno : Is (appOk j ⟨k, nm, a, b, ⟨r, l, c, g⟩, ⟨m, cc, up⟩⟩) false → Is (appd j ⟨k, nm, a, b, ⟨r, l, c, g⟩, ⟨m, cc, up⟩⟩) j := fun h => ⟨by unfold appd; rw [h.out]; rfl⟩
  by_cases h1 : (8192 : Int) < s.size
  · have hk := hlong (.inl (by omega))
    have hk2 := hno hk
    clear hlong hno HP
    go_enter Try.func17, Try.ntmps17
    go_wp2
    go_ret2
    exact ⟨by rw [hk.out, hk2.out]; exact ret_app HS.out, (Held.refl w).alloc _⟩
  by_cases h2 : (8192 : Int) < nm.size
  · have hk := hlong (.inr (by omega))
    have hk2 := hno hk
    clear hlong hno HP
    go_enter Try.func17, Try.ntmps17
    go_wp2
    go_ret2
    exact ⟨by rw [hk.out, hk2.out]; exact ret_app HS.out, (Held.refl w).alloc _⟩
  clear hlong
  obtain ⟨n, hn⟩ : ∃ n, (parse j).1.length = n := ⟨_, rfl⟩
  have hn2 : n ≤ j.length := by rw [← hn]; exact hpl
  have HN := Lib.hid hn
  have HA : Is (appRec j ⟨k, nm, a, b, ⟨r, l, c, g⟩, ⟨m, cc, up⟩⟩) (j ++ record n ⟨k, nm, a, b, ⟨r, l, c, g⟩, ⟨m, cc, up⟩⟩) := ⟨by unfold appRec; rw [hn]⟩
  have HK : Is (appOk j ⟨k, nm, a, b, ⟨r, l, c, g⟩, ⟨m, cc, up⟩⟩) (decide ((j ++ record n ⟨k, nm, a, b, ⟨r, l, c, g⟩, ⟨m, cc, up⟩⟩).length ≤ 8192)) := ⟨by unfold appOk; rw [HA.out]⟩
  have HY : Is (appOk j ⟨k, nm, a, b, ⟨r, l, c, g⟩, ⟨m, cc, up⟩⟩) true → Is (appd j ⟨k, nm, a, b, ⟨r, l, c, g⟩, ⟨m, cc, up⟩⟩) (j ++ record n ⟨k, nm, a, b, ⟨r, l, c, g⟩, ⟨m, cc, up⟩⟩) := fun h => ⟨by unfold appd; rw [h.out, if_pos rfl, HA.out]⟩
  have HR := fun w => Lib.hid (record_any n (by omega) k nm a b r l c g m cc up hnm w)
  have hrl : (record n ⟨k, nm, a, b, ⟨r, l, c, g⟩, ⟨m, cc, up⟩⟩).length ≤ 1000001000 := by
    have e1 := enc_len2 ⟨k, nm, a, b, ⟨r, l, c, g⟩, ⟨m, cc, up⟩⟩ hnm
    have e2 := sealed_len n ⟨k, nm, a, b, ⟨r, l, c, g⟩, ⟨m, cc, up⟩⟩ (by omega) (by omega)
    have e3 := Uv.put_len (sealed n ⟨k, nm, a, b, ⟨r, l, c, g⟩, ⟨m, cc, up⟩⟩).length (by omega)
    unfold record; rw [List.length_append]; omega
  clear hn hpl HA
  generalize record n ⟨k, nm, a, b, ⟨r, l, c, g⟩, ⟨m, cc, up⟩⟩ = R at *
  have HL : Is ((j ++ R).length) (j.length + R.length) := ⟨List.length_append⟩
  go_enter Try.func17, Try.ntmps17
  go_wp2_with fail
  refine (HP _).out.mono ?_
  rintro e w1 ⟨v, rfl, ho, h1'⟩
  obtain ⟨A, cap, rfl, _, _⟩ := ho.shape
  rw [HN.out] at ho ⊢
  have HB := Lib.hid (Bx.held (box_new w (.cells #[.int .i64 k, .string nm, .int .i64 a, .int .i64 b, .int .i64 r, .int .i64 l, .int .i64 c, .int .i64 g, .int .i64 m, .int .i64 cc, .bool up] 27)) h1')
  have HH1 := Lib.hid (((Held.refl w).alloc _).step h1')
  clear ho h1' HP
  obtain ⟨⟨a0, a1, a2, a3, a4, a5, a6, a7, a8, a9, a10⟩, _⟩ := box11h HB.out
  go_wp2_with fail
  (with_reducible refine (HR _).out.mono ?_)
  rintro e w2 ⟨rfl, h2'⟩
  clear HB a0 a1 a2 a3 a4 a5 a6 a7 a8 a9 a10
  by_cases h3 : (8192 : Int) < (s.size : Int) + R.length
  · have hk : Is (appOk j ⟨k, nm, a, b, ⟨r, l, c, g⟩, ⟨m, cc, up⟩⟩) false := ⟨by rw [HK.out, HL.out]; exact decide_eq_false (by omega)⟩
    have hk2 := hno hk
    clear HK HY hno
    go_wp2
    go_ret2
    exact ⟨by rw [hk.out, hk2.out]; exact ret_app HS.out, HH1.out.step h2'⟩
  · have hk : Is (appOk j ⟨k, nm, a, b, ⟨r, l, c, g⟩, ⟨m, cc, up⟩⟩) true := ⟨by rw [HK.out, HL.out]; exact decide_eq_true (by omega)⟩
    have hk2 := HY hk
    clear HK HY hno
    go_wp2
    go_ret2
    exact ⟨by rw [hk.out, hk2.out]; exact ret_app (by rw [← HS.out]; simp), HH1.out.step h2'⟩
end Jn
end Go.Proofs.Ytmmnanmegdflgaa

set_option linter.unusedVariables false
set_option linter.unusedSimpArgs false
set_option maxRecDepth 100000
namespace Go.Proofs.Ytmmnanmegdflgaa
open Go.RowKit Go.BigFrame Go.Sort
namespace Jn
open Ad Adm Law39 Lg
def RecTo (l : List UInt8) (w : World) (e : Ending) (w' : World) : Prop := ∃ A1 n1 c1 A2 n2 c2, e = .returned (.tuple #[.agg #[.slice A1 n1 c1, .slice A2 n2 c2], .string ⟨(l.take (used l)).toArray⟩]) ∧ Held w w' ∧ RegR w' A1 n1 A2 n2 (recov (parse l).1) ∧ Caps A1 n1 c1 A2 n2 c2
/-- What is known of a registry on the way. -/
structure On1 (w : World) (A1 : Option Addr) (n1 c1 : Nat) (A2 : Option Addr) (n2 c2 : Nat) (r : Reg) : Prop where
  reg : RegR w A1 n1 A2 n2 r
  c : Caps A1 n1 c1 A2 n2 c2
  v : VR r
theorem On1.hn {w : World} {A1 : Option Addr} {n1 c1 : Nat} {A2 : Option Addr} {n2 c2 : Nat} {r : Reg} (h : On1 w A1 n1 c1 A2 n2 c2 r) : (n1 : Int) ≤ 1000000 ∧ (n2 : Int) ≤ 1000000 := by
  have h1 := h.reg.hs.1
  have h2 := h.reg.gs.1
  have h3 := h.v.hl
  have h4 := h.v.gl
  omega
theorem On1.nm {w : World} {A1 : Option Addr} {n1 c1 : Nat} {A2 : Option Addr} {n2 c2 : Nat} {r : Reg} (h : On1 w A1 n1 c1 A2 n2 c2 r) : ∀ p ∈ r.gs, (p.nm.size : Int) ≤ 1000000000 := by
  intro p hp
  have := h.v.nms p hp
  omega
theorem caps_zero : Caps none 0 0 none 0 0 := ⟨Nat.le_refl _, Nat.le_refl _, fun _ => rfl, fun _ => rfl⟩
theorem on1_zero (w : World) : On1 w none 0 0 none 0 0 ⟨[], []⟩ := ⟨⟨Sl.nil w none, Sl.nil w none⟩, caps_zero, vr_zero⟩
theorem str_take {s : ByteArray} {l : List UInt8} {k : Nat} (h : s.data.toList = l) : (s.extract 0 k) = ⟨(l.take k).toArray⟩ := by
  apply ba_ext
  rw [← h]
  simp [ByteArray.extract, ByteArray.copySlice]
set_option maxHeartbeats 4000000 in
theorem recover_any (s : ByteArray) (hs : (s.size : Int) ≤ 1000000000) (w : World) : Calls Try.prog 19 #[.string s] w (RecTo s.data.toList w) := by
  obtain ⟨l, hl⟩ : ∃ l, s.data.toList = l := ⟨_, rfl⟩
  have HS := Lib.hid hl
  have hsl := sz_of hl
  obtain ⟨u, hu⟩ : ∃ u, used l = u := ⟨_, rfl⟩
  have HU := Lib.hid hu
  have hul := used_le l
  rw [hu] at hul
  obtain ⟨L, hL⟩ : ∃ L, (parse l).1 = L := ⟨_, rfl⟩
  have HL := Lib.hid hL
  have hnm := parse_nm l
  rw [hL] at hnm
  have HNM := Lib.hid hnm
  have HP := Lib.hid fun w' => parse_any s hs w'
  unfold ParseTo at HP
  rw [hl, hu, hL] at HP
  rw [hl]
  clear hl hu hL hnm
  have M0 := Lib.hid ((Mem.start w).alloc' (b := w.heap.size) rfl #[.slice none 0 0, .slice none 0 0] 37)
  go_enter Try.func19, Try.ntmps19
  go_wp2_with fail
  refine (HP.out _).mono ?_
  rintro e w1 ⟨v, rfl, o1, h1⟩
  obtain ⟨A, cap, rfl, hcap, _⟩ := o1.shape
  obtain ⟨n, hn⟩ : ∃ n, L.length = n := ⟨_, rfl⟩
  have HN := Lib.hid hn
  have M1 := Lib.hid (M0.out.own h1 o1)
  rw [hn] at hcap M1 ⊢
  have hnl : (n : Int) ≤ s.size := by
    have := parse_len l 0
    have e : (parseN 0 l).1 = L := HL.out
    rw [e, hn] at this
    omega
  clear hn M0 o1 h1 HP
  have M2 := Lib.hid (M1.out.alloc' (b := w1.heap.size) rfl #[.slice none 0 0, .slice none 0 0] 37)
  clear M1
  obtain ⟨b6, hb6⟩ : ∃ b6, w1.heap.size = b6 := ⟨_, rfl⟩
  go_wp2
  rw [hb6] at M2
  clear hb6
  go_loopw [18] (fun i wr => ∃ (k : Nat) (A1 : Option Addr) (n1 c1 : Nat) (A2 : Option Addr) (n2 c2 : Nat), i = .int .i64 k ∧ k ≤ n ∧ Mem w wr [.box w.heap.size #[.slice none 0 0, .slice none 0 0] 37, .row 27 11 manF w.heap.size (.slice A n cap) L, .box b6 #[.slice A1 n1 c1, .slice A2 n2 c2] 37] ∧ On1 wr A1 n1 c1 A2 n2 c2 (recov (L.take k))) (fun i _ => n - (intOf i).toNat)
  case atStart => exact ⟨0, none, 0, 0, none, 0, 0, rfl, Nat.zero_le _, M2.out, on1_zero _⟩
  case round =>
    obtain ⟨k, A1, n1, c1, A2, n2, c2, rfl, hk, hM, hO⟩ := hrel
    have M3 := Lib.hid hM
    have HO := Lib.hid hO
    obtain ⟨hn1, hn2⟩ := hO.hn
    clear hM hO M2
    obtain ⟨⟨d0, d1⟩, ⟨df0, df1⟩, dlt⟩ := M3.out.box2 2 rfl
    by_cases hlt : (k : Int) < n
    · obtain ⟨g, x, rfl, hg0, hg1, hx, hc⟩ := M3.out.slot 1 rfl manF_len (by decide) (k := k) (by rw [HN.out]; omega)
      obtain ⟨xk, xnm, xa, xb, ⟨xr, xl, xc, xg⟩, ⟨xm, xcc, xup⟩⟩ := x
      have hxn : (xnm.size : Int) ≤ 1000000000 := by
        have := HNM.out _ (List.mem_of_getElem? hx)
        simp only at this
        omega
      have HX := Lib.hid hx
      have x0 := (hc 0 (by decide)).2 _ rfl
      have x1 := (hc 1 (by decide)).2 _ rfl
      have x2 := (hc 2 (by decide)).2 _ rfl
      have x3 := (hc 3 (by decide)).2 _ rfl
      have x4 := (hc 4 (by decide)).2 _ rfl
      have x5 := (hc 5 (by decide)).2 _ rfl
      have x6 := (hc 6 (by decide)).2 _ rfl
      have x7 := (hc 7 (by decide)).2 _ rfl
      have x8 := (hc 8 (by decide)).2 _ rfl
      have x9 := (hc 9 (by decide)).2 _ rfl
      have x10 := (hc 10 (by decide)).2 _ rfl
      rw [Nat.add_zero] at x0
      clear hx hc
      have k0 : ¬ (k : Int) < 0 := by omega
      obtain ⟨r', er, hap⟩ : ∃ r' er, apply (recov (L.take k)) ⟨xk, xnm, xa, xb, ⟨xr, xl, xc, xg⟩, ⟨xm, xcc, xup⟩⟩ = (r', er) := ⟨_, _, rfl⟩
      have hvr : VR r' := by
        have := vr_apply ⟨xk, xnm, xa, xb, ⟨xr, xl, xc, xg⟩, ⟨xm, xcc, xup⟩⟩ (vr_recov (L.take k))
        rw [hap] at this
        exact this
      have HVR := Lib.hid hvr
      have HAP := Lib.hid hap
      clear hap hvr
      have M4 := Lib.hid (M3.out.alloc' (b := wr.heap.size) rfl #[.int .i64 xk, .string xnm, .int .i64 xa, .int .i64 xb, .int .i64 xr, .int .i64 xl, .int .i64 xc, .int .i64 xg, .int .i64 xm, .int .i64 xcc, .bool xup] 27)
      have HO4 := Lib.hid (HO.out.reg.held ((Held.refl wr).alloc (.cells #[.int .i64 xk, .string xnm, .int .i64 xa, .int .i64 xb, .int .i64 xr, .int .i64 xl, .int .i64 xc, .int .i64 xg, .int .i64 xm, .int .i64 xcc, .bool xup] 27)))
      go_wp2_with fail
      refine (apply_any A1 n1 c1 A2 n2 c2 (recov (L.take k)) xk xnm xa xb xr xl xc xg xm xcc xup _ HO4.out hn1 hn2 HO.out.nm hxn).mono ?_
      rintro e w5 ⟨B1, m1, e1, B2, m2, e2, rfl, h5, hR, hcp⟩
      rw [HAP.out] at hR ⊢
      simp only at hR ⊢
      have M5 := Lib.hid (M4.out.keep h5)
      have HO5 := Lib.hid (HO4.out.held h5)
      have HR5 := Lib.hid hR
      have HCP := Lib.hid hcp
      clear M4 h5 hR hcp d0 d1 df0 df1 dlt HO4
      obtain ⟨⟨d0, d1⟩, ⟨df0, df1⟩, dlt⟩ := M5.out.box2 2 rfl
      clear x0 x1 x2 x3 x4 x5 x6 x7 x8 x9 x10
      have M6 := Lib.hid (M5.out.alloc' (b := w5.heap.size) rfl #[.slice B1 m1 e1, .slice B2 m2 e2] 37)
      have k6 := (Held.refl w5).alloc (.cells #[.slice B1 m1 e1, .slice B2 m2 e2] 37)
      have HR6 := Lib.hid (HR5.out.held k6)
      have HO6 := Lib.hid (HO5.out.held k6)
      clear k6
      by_cases he : er = 0
      · subst he
        have HRO : Is (recov (L.take (k + 1))) r' := ⟨run_ok HX.out HAP.out⟩
        go_wp2
        have M7 := M5.out.put 2 rfl 0 (.slice B1 m1 e1)
        have HR7 := HR5.out.putSlice (M5.out.cell 2 rfl 0 rfl) (.slice B1 m1 e1)
        have M8 := (M7.put 2 rfl 1 (.slice B2 m2 e2)).skip (.cells #[.slice B1 m1 e1, .slice B2 m2 e2] 37)
        have HR8 := (HR7.putSlice (M7.cell 2 rfl 1 rfl) (.slice B2 m2 e2)).held ((Held.refl _).alloc (.cells #[.slice B1 m1 e1, .slice B2 m2 e2] 37))
        go_roundw
        case rel => exact ⟨k + 1, B1, m1, e1, B2, m2, e2, by go_num, by omega, M8.take 3, by rw [HRO.out]; exact ⟨HR8, HCP.out, HVR.out⟩⟩
        case measure => (simp [intOf]) <;> omega
      · have heb : (er == 0) = false := by simp [he]
        have HRO : Is (recov (L.take (k + 1))) (recov (L.take k)) := ⟨run_err HX.out HAP.out he⟩
        clear he
        go_wp2
        go_roundw
        case rel => exact ⟨k + 1, A1, n1, c1, A2, n2, c2, by go_num, by omega, M6.out.take 3, by rw [HRO.out]; exact ⟨HO6.out, HO.out.c, HO.out.v⟩⟩
        case measure => (simp [intOf]) <;> omega
    · have hkn : k = n := by omega
      have HLT : Is (L.take k) L := ⟨List.take_of_length_le (by rw [HN.out]; omega)⟩
      clear hkn
      obtain ⟨⟨e0, e1⟩, ⟨ef0, ef1⟩, elt⟩ := M3.out.box2 0 rfl
      have hus : (u : Int) ≤ s.size := by omega
      have hu0 : ¬ (u : Int) < 0 := by omega
      go_wp2
      go_region
      go_wp2
      have MF1 := M3.out.put 0 rfl 0 (.slice A1 n1 c1)
      have HF1 := HO.out.reg.putSlice (M3.out.cell 0 rfl 0 rfl) (.slice A1 n1 c1)
      have MF := (MF1.put 0 rfl 1 (.slice A2 n2 c2)).drew
      have HF := (HF1.putSlice (MF1.cell 0 rfl 1 rfl) (.slice A2 n2 c2)).held (Held.refl _).drew
      refine bodyPost_ret (Bx.res_ct Try.results19 rfl (reg_load (MF.blk 0 rfl))) rfl ⟨A1, n1, c1, A2, n2, c2, ?_, MF.held, ?_, HO.out.c⟩
      · rw [HU.out, ← str_take HS.out]; rfl
      · rw [HL.out, ← HLT.out]; exact HF
end Jn
end Go.Proofs.Ytmmnanmegdflgaa
