/-
  Contracts: evict of the pager.
-/
import Derived.Test.YtgfbfmgdlbdlhaaPgW
import Derived.Test.YtgfbfmgdlbdlhaaPgV
import Derived.Test.YtgfbfmgdlbdlhaaSlcPg
import Derived.OwnWalk
import Derived.RegionTactic
import Derived.BigRegion
set_option linter.unusedVariables false
set_option linter.unusedSimpArgs false
set_option maxRecDepth 100000
namespace Go.Proofs.Ytgfbfmgdlbdlhaa
open Go.RowKit Go.BigFrame Go.Sort
namespace Pg
def fill {α β : Type} (f : α → β) (z : β) (L : List α) (k : Nat) : List β := (L.take k).map f ++ List.replicate (L.length - k) z
theorem fill_len {α β : Type} (f : α → β) (z : β) (L : List α) (k : Nat) (hk : k ≤ L.length) : (fill f z L k).length = L.length := by
  unfold fill; rw [List.length_append, List.length_map, List.length_take, List.length_replicate]; omega
theorem fill_zero {α β : Type} (f : α → β) (z : β) (L : List α) : fill f z L 0 = List.replicate L.length z := by simp [fill]
theorem fill_all {α β : Type} (f : α → β) (z : β) (L : List α) : fill f z L L.length = L.map f := by simp [fill]
theorem fill_next {α β : Type} (f : α → β) (z : β) (L : List α) (k : Nat) (hk : k < L.length) : (fill f z L k).set k (f L[k]) = fill f z L (k + 1) := by
  unfold fill
  rw [List.set_append, if_neg (by rw [List.length_map, List.length_take]; omega), List.length_map, List.length_take, take_next L k hk, List.map_append, List.append_assoc]
  congr 1
  rw [show k - min k L.length = 0 by omega, show L.length - k = (L.length - (k + 1)) + 1 by omega, List.replicate_succ]
  rfl
theorem bool_info : (Try.prog.info? 4).map (fun i => (i.zero, i.size, i.bytes)) = some (some (.bool false), 1, 1) := by kernel_rfl
theorem made_bool (n : Nat) : (madeCells (Value.bool false).cells (n * 1)).toList = (List.replicate n false).flatMap boC := by
  rw [show (Value.bool false).cells = #[.bool false] from rfl, Nat.mul_one, toList_madeCells_one]
  induction n with
  | zero => rfl
  | succ n ih => rw [List.replicate_succ, List.replicate_succ, List.flatMap_cons, ← ih]; rfl
/-- Marks set. -/
def mark (L : List Pg) (M : List Bool) : List Pg := L.mapIdx fun i x => ⟨x.st, x.d, M.getD i false⟩
def markK (L : List Pg) (M : List Bool) (k : Nat) : List Pg := L.mapIdx fun i x => if i < k then ⟨x.st, x.d, M.getD i false⟩ else x
theorem markK_zero (L : List Pg) (M : List Bool) : markK L M 0 = L := by
  apply List.ext_getElem (by simp [markK])
  intro i h1 h2
  simp [markK]
theorem markK_len (L : List Pg) (M : List Bool) (k : Nat) : (markK L M k).length = L.length := by simp [markK]
theorem markK_all (L : List Pg) (M : List Bool) : markK L M L.length = mark L M := by
  apply List.ext_getElem (by simp [markK, mark])
  intro i h1 h2
  have : i < L.length := by simpa [markK] using h1
  simp [markK, mark, this]
theorem markK_next (L : List Pg) (M : List Bool) (k : Nat) (hk : k < L.length) : (markK L M k).set k ⟨L[k].st, L[k].d, M.getD k false⟩ = markK L M (k + 1) := by
  apply List.ext_getElem (by simp [markK])
  intro i h1 h2
  have hi : i < L.length := by simpa [markK] using h2
  by_cases e : k = i
  · subst e
    simp [markK]
  · rw [List.getElem_set_ne e]
    simp only [markK, List.getElem_mapIdx]
    by_cases h : i < k
    · rw [if_pos h, if_pos (by omega)]
    · rw [if_neg h, if_neg (by omega)]
theorem markK_at (L : List Pg) (M : List Bool) (k : Nat) (hk : k < L.length) : (markK L M k)[k]'(by rw [markK_len]; exact hk) = L[k] := by simp [markK]
def evV (L : List Pg) (hand : Int) : Int := vicV (L.map Pg.u) (L.map fun x => decide (x.st = 1)) hand (-1)
def evM (L : List Pg) (hand : Int) : List Bool := vicU (L.map Pg.u) (L.map fun x => decide (x.st = 1)) hand (-1)
def evH (L : List Pg) (hand : Int) : Int := if evV L hand < 0 then hand else vicH (L.map Pg.u) (L.map fun x => decide (x.st = 1)) hand (-1)
/-- The pages behind an eviction. -/
def evL (L : List Pg) (hand : Int) : List Pg :=
  if evV L hand < 0 then L else (mark L (evM L hand)).set (evV L hand).toNat (putOut (((L[(evV L hand).toNat]?).map Pg.d).getD ⟨#[]⟩))
/-- A pager of the call's own, in a box. -/
structure Gr (W : World) (pb : Nat) (A : Option Addr) (n cap : Nat) (lim hand : Int) (L : List Pg) (w : World) : Prop where
  box : w.heap[pb]? = some (.cells #[.slice A n cap, .int .i64 lim, .int .i64 hand] 32 (0, 0))
  own : Own 37 3 pgC W.heap.size w (.slice A n cap) L
  ne : ∀ g, (Value.slice A n cap).ownBlock = some g → g ≠ pb
  ge : W.heap.size ≤ pb
  held : Held W w
theorem Gr.keep {W w w' : World} {pb : Nat} {A : Option Addr} {n cap : Nat} {lim hand : Int} {L : List Pg} (h : Gr W pb A n cap lim hand L w) (k : Held w w') : Gr W pb A n cap lim hand L w' :=
  ⟨Bx.held h.box k, Own.held h.own k, h.ne, h.ge, h.held.step k⟩
/-- What is kept: all blocks but the pager's box and the pages' row. -/
structure Kb (pb : Nat) (v : Value) (w w' : World) : Prop where
  os : w'.os = w.os
  tape : w'.tape = w.tape
  output : w'.output = w.output
  size : w.heap.size ≤ w'.heap.size
  block : ∀ b, b < w.heap.size → b ≠ pb → v.ownBlock ≠ some b → w'.heap[b]? = w.heap[b]?
theorem Kb.held {pb : Nat} {v : Value} {w w' : World} (h : Held w w') : Kb pb v w w' := ⟨h.os, h.tape, h.output, h.size, fun b hb _ _ => h.block b hb⟩
theorem Kb.trans {pb : Nat} {v : Value} {a b c : World} (h : Kb pb v a b) (k : Kb pb v b c) : Kb pb v a c :=
  ⟨k.os.trans h.os, k.tape.trans h.tape, k.output.trans h.output, Nat.le_trans h.size k.size, fun q hq h1 h2 => (k.block q (Nat.lt_of_lt_of_le hq h.size) h1 h2).trans (h.block q hq h1 h2)⟩
theorem own_made {w : World} {B : Nat} {v : Value} {n : Nat} (h : w.ownsRow B 4 1 v n (madeCells (Value.bool false).cells (n * 1)).toList) : Own 4 1 boC B w v (List.replicate n false) := by
  unfold Own; rw [List.length_replicate, ← made_bool]; exact h
/-- A cell of the pages' row, stored. -/
theorem Gr.put {W w : World} {pb g n cap : Nat} {lim hand : Int} {L : List Pg} (h : Gr W pb (some ⟨g, 0, none⟩) n cap lim hand L w) {k i : Nat} (hk : k < L.length) (hi : i < 3) (u : Value) (x : Pg) (hx : pgC x = (pgC L[k]).set i u) : Gr W pb (some ⟨g, 0, none⟩) n cap lim hand (L.set k x) (w.setCell ⟨g, k * 3 + i, none⟩ u) := by
  have hne := h.ne g rfl
  have hg := (World.ownsRow.lt h.own g rfl).1
  exact ⟨(Bx.far (fun e => hne e.symm)).trans h.box, Own.put pgC_len h.own hk hi u x hx, h.ne, h.ge, h.held.set hg _⟩
theorem Gr.putAll {W w : World} {pb g n cap : Nat} {lim hand : Int} {L : List Pg} (h : Gr W pb (some ⟨g, 0, none⟩) n cap lim hand L w) {k : Nat} (hk : k < L.length) (y : Pg) : Gr W pb (some ⟨g, 0, none⟩) n cap lim hand (L.set k y) (((w.setCell ⟨g, k * 3, none⟩ (.int .i64 y.st)).setCell ⟨g, k * 3 + 1, none⟩ (.string y.d)).setCell ⟨g, k * 3 + 2, none⟩ (.bool y.u)) := by
  have h1 := h.put hk (i := 0) (by decide) (.int .i64 y.st) ⟨y.st, L[k].d, L[k].u⟩ rfl
  have h2 := h1.put (k := k) (i := 1) (by simpa using hk) (by decide) (.string y.d) ⟨y.st, y.d, L[k].u⟩ (by rw [List.getElem_set_self]; rfl)
  have h3 := h2.put (k := k) (i := 2) (by simpa using hk) (by decide) (.bool y.u) y (by rw [List.getElem_set_self]; rfl)
  rw [List.set_set, List.set_set] at h3
  exact h3
theorem Own.heldB {α : Type} {e : TypeId} {s : Nat} {f : α → List Value} {B : Nat} {w w' : World} {v : Value} {L : List α} (h : Own e s f B w v L) (k : Held w w') : Own e s f B w' v L := by
  refine ⟨h.1, h.2.imp id ?_⟩
  rintro ⟨g, cp, cur, rfl, q1, q2, q3⟩
  exact ⟨g, cp, cur, rfl, q1, (k.block g (Array.getElem?_eq_some_iff.1 q2).1).trans q2, q3⟩
theorem Kb.set {pb : Nat} {g n cap : Nat} {w w' : World} (h : Kb pb (.slice (some ⟨g, 0, none⟩) n cap) w w') (j : Nat) (u : Value) : Kb pb (.slice (some ⟨g, 0, none⟩) n cap) w (w'.setCell ⟨g, j, none⟩ u) :=
  ⟨h.os, h.tape, h.output, by simpa [World.setCell] using h.size, fun b hb h1 h2 => (Bx.far (fun e => h2 (by rw [e]; rfl))).trans (h.block b hb h1 h2)⟩
theorem Kb.setBox {pb : Nat} {v : Value} {w w' : World} (h : Kb pb v w w') (j : Nat) (u : Value) : Kb pb v w (w'.setCell ⟨pb, j, none⟩ u) :=
  ⟨h.os, h.tape, h.output, by simpa [World.setCell] using h.size, fun b hb h1 h2 => (Bx.far h1).trans (h.block b hb h1 h2)⟩
theorem Kb.step {pb : Nat} {v : Value} {w a b : World} (h : Kb pb v w a) (k : Held a b) : Kb pb v w b := h.trans (Kb.held k)
theorem Gr.hand {W w : World} {pb : Nat} {A : Option Addr} {n cap : Nat} {lim hand : Int} {L : List Pg} (h : Gr W pb A n cap lim hand L w) (hand' : Int) : Gr W pb A n cap lim hand' L (w.setCell ⟨pb, 2, none⟩ (.int .i64 hand')) :=
  ⟨by rw [Bx.set h.box 2 _]; rfl, Own.far h.own (fun e => h.ne pb e rfl), h.ne, h.ge, h.held.set h.ge _⟩
theorem grown0 {w w' : World} (h : w.grownBy w' none) : Held w w' := ⟨h.os, h.tape, h.output, h.size, fun b hb => h.block b hb (by simp)⟩
theorem Gr.cells {W w : World} {pb : Nat} {A : Option Addr} {n cap : Nat} {lim hand : Int} {L : List Pg} (h : Gr W pb A n cap lim hand L w) : w.cell? ⟨pb, 0, none⟩ = some (.slice A n cap) ∧ w.cell? ⟨pb, 1, none⟩ = some (.int .i64 lim) ∧ w.cell? ⟨pb, 2, none⟩ = some (.int .i64 hand) ∧ w.frozen? ⟨pb, 0, none⟩ = false ∧ w.frozen? ⟨pb, 2, none⟩ = false ∧ pb < w.heap.size :=
  ⟨Bx.cell h.box 0 rfl, Bx.cell h.box 1 rfl, Bx.cell h.box 2 rfl, Bx.free h.box 0, Bx.free h.box 2, Bx.lt h.box⟩
set_option maxHeartbeats 8000000 in
theorem evict_any (W w : World) (pb : Nat) (A : Option Addr) (n cap : Nat) (lim hand : Int) (L : List Pg) (h : Gr W pb A n cap lim hand L w) (hn1 : 1 ≤ n) (hn2 : n ≤ 32) (hh0 : 0 ≤ hand) (hh1 : hand < n) (hd : ∀ x ∈ L, (x.d.size : Int) ≤ 1000000) :
    Calls Try.prog 37 #[.pointer (some ⟨pb, 0, none⟩)] w fun e w' => e = .returned (.tuple #[]) ∧ Gr W pb A n cap lim (evH L hand) (evL L hand) w' ∧ Kb pb (.slice A n cap) w w' := by
  have HG := Lib.hid h
  have HD := Lib.hid hd
  have hle := h.held.le
  have HLn := Lib.hid (h.own.reads pgC_len).2.1
  obtain ⟨i0, hi, hz0, hz1, hz2⟩ := info_parts bool_info
  obtain ⟨c0, c1, c2, f0, f2, hlt⟩ := h.cells
  clear h hd
  go_enter Try.func37, Try.ntmps37
  go_wp2_with (at_make; refine wpList_make_full _ rfl _ _ 22 rfl W.heap.size 4 i0 (.bool false) 1 Try.underlying22 hi hz0 hz1 .i64 .i64 _ _ n rfl rfl rfl rfl (by rw [hz2]; omega) (by unfold maxLen; omega) (by omega) ?_; intro w1 own1 gr1; have k1 := grown0 gr1; have s1 := k1.le; clear gr1; first | (have OB := Lib.hid (And.intro (Own.held OA.out k1) (own_made own1)); have K2 := Lib.hid (K1.out.step k1); clear own1 k1 c0 c1 c2 f0 f2 hlt; obtain ⟨c0, c1, c2, f0, f2, hlt⟩ := (HG.out.keep K2.out).cells) | (have OA := Lib.hid (own_made own1); have K1 := Lib.hid k1; obtain ⟨gb, hgb⟩ : ∃ gb, gb = w1.heap.size := ⟨_, rfl⟩; have HGB := Lib.hid hgb; have hab := (World.ownsRow.lt OA.out _ rfl).2; rw [← hgb] at hab; clear hgb; clear own1 k1 c0 c1 c2 f0 f2 hlt; obtain ⟨c0, c1, c2, f0, f2, hlt⟩ := (HG.out.keep K1.out).cells))
  rw [← HGB.out] at OB ⊢
  obtain ⟨ga, hga⟩ : ∃ ga, ga = w.heap.size := ⟨_, rfl⟩
  rw [← hga] at OB hab ⊢
  have HGA := Lib.hid hga
  clear hga HGB OA K1 s1
  have hgw : Hid (W.heap.size ≤ ga) := by show _ ≤ _; have := HGA.out; omega
  go_loopw [27] (fun i wr => ∃ k : Nat, i = .int .i64 k ∧ k ≤ n ∧ Own 4 1 boC W.heap.size wr (.slice (some ⟨ga, 0, none⟩) n n) (fill Pg.u false L k) ∧ Own 4 1 boC W.heap.size wr (.slice (some ⟨gb, 0, none⟩) n n) (fill (fun x => decide (x.st = 1)) false L k) ∧ Held w wr) (fun i _ => n - (intOf i).toNat)
  case atStart => exact ⟨0, rfl, Nat.zero_le _, by rw [fill_zero, ← HLn.out]; exact OB.out.1, by rw [fill_zero, ← HLn.out]; exact OB.out.2, K2.out⟩
  case round =>
    obtain ⟨k, rfl, hk, ho1, ho2, hh⟩ := hrel
    have HO := Lib.hid (And.intro ho1 (And.intro ho2 hh))
    clear OB c0 c1 c2 f0 f2 hlt
    obtain ⟨c0, c1, c2, f0, f2, hlt⟩ := (HG.out.keep hh).cells
    by_cases hkn : (k : Int) < n
    · have hkL : k < L.length := by have := HLn.out; omega
      obtain ⟨g, rfl, hg1, hg2, hsl⟩ := Own.slot pgC_len (HG.out.keep hh).own (by decide) hkL
      obtain ⟨x, hx⟩ : ∃ x, L[k] = x := ⟨_, rfl⟩
      rw [hx] at hsl
      have x0 := (hsl 0 (by decide)).2 _ rfl
      have x1 := (hsl 1 (by decide)).2 _ rfl
      have x2 := (hsl 2 (by decide)).2 _ rfl
      rw [Nat.add_zero] at x0
      have hfl1 := fill_len Pg.u false L k (by omega)
      have hfl2 := fill_len (fun x : Pg => decide (x.st = 1)) false L k (by omega)
      obtain ⟨ga', hga1, _, hga2, hgs⟩ := Own.slot boC_len ho1 (by decide) (k := k) (by omega)
      obtain ⟨gb', hgb1, _, hgb2, hgs2⟩ := Own.slot boC_len ho2 (by decide) (k := k) (by omega)
      injection hga1 with hga1
      injection hga1 with hga1
      injection hgb1 with hgb1
      injection hgb1 with hgb1
      subst hga1 hgb1
      have fa := (hgs 0 (by decide)).1
      have fb := (hgs2 0 (by decide)).1
      have va := (hgs 0 (by decide)).2 _ rfl
      have vb := (hgs2 0 (by decide)).2 _ rfl
      rw [Nat.add_zero, Nat.mul_one] at fa fb va vb
      obtain ⟨st1, hst⟩ : ∃ b, decide (x.st = 1) = b := ⟨_, rfl⟩
      have hstb : (x.st == 1) = st1 := by rw [← hst, Bool.eq_iff_iff]; simp
      have n1 := fill_next Pg.u false L k hkL
      have n2 := fill_next (fun x : Pg => decide (x.st = 1)) false L k hkL
      rw [hx] at n1 n2
      simp only [hst] at n2
      have N1 := Lib.hid n1
      have N2 := Lib.hid n2
      have hne1 : ¬ ga = gb := by omega
      have HFL := Lib.hid (And.intro hfl1 hfl2)
      have HKL := Lib.hid hkL
      obtain ⟨av, hav⟩ : ∃ av, (fill Pg.u false L k)[k]'(by omega) = av := ⟨_, rfl⟩
      obtain ⟨bv, hbv⟩ : ∃ bv, (fill (fun x : Pg => decide (x.st = 1)) false L k)[k]'(by omega) = bv := ⟨_, rfl⟩
      rw [hav] at va
      rw [hbv] at vb
      clear hsl hx hst n1 n2 hgs hgs2 ho1 ho2 hh hav hbv
      clear hfl1 hfl2 hkL
      have HR1 : Hid (Own 4 1 boC W.heap.size ((wr.setCell ⟨ga, k, none⟩ (.bool x.u)).setCell ⟨gb, k, none⟩ (.bool st1)) (.slice (some ⟨ga, 0, none⟩) n n) (fill Pg.u false L (k + 1))) := by
        have h1 := Own.put boC_len HO.out.1 (k := k) (by have := HFL.out.1; have := HKL.out; omega) (i := 0) (by decide) (.bool x.u) x.u rfl
        rw [Nat.add_zero, Nat.mul_one, N1.out] at h1
        exact Own.far h1 (by simp [Value.ownBlock]; exact hne1)
      have HR2 : Hid (Own 4 1 boC W.heap.size ((wr.setCell ⟨ga, k, none⟩ (.bool x.u)).setCell ⟨gb, k, none⟩ (.bool st1)) (.slice (some ⟨gb, 0, none⟩) n n) (fill (fun x => decide (x.st = 1)) false L (k + 1))) := by
        have h0 := Own.far HO.out.2.1 (c := ga) (j := k) (u := .bool x.u) (by simp [Value.ownBlock]; exact fun e => hne1 e.symm)
        have h1 := Own.put boC_len h0 (k := k) (by have := HFL.out.2; have := HKL.out; omega) (i := 0) (by decide) (.bool st1) st1 rfl
        rw [Nat.add_zero, Nat.mul_one, N2.out] at h1
        exact h1
      have HR3 : Hid (Held w ((wr.setCell ⟨ga, k, none⟩ (.bool x.u)).setCell ⟨gb, k, none⟩ (.bool st1))) := (HO.out.2.2.set (by have := HGA.out; show w.heap.size ≤ ga; omega) _).set (by have := HGA.out; show w.heap.size ≤ gb; omega) _
      go_wp2
      go_roundw
      case rel => exact ⟨k + 1, by go_num, by omega, Own.held HR1.out ((Held.refl _).alloc _), Own.held HR2.out ((Held.refl _).alloc _), HR3.out.alloc _⟩
      case measure => (simp [intOf]) <;> omega
    · obtain rfl : k = n := by omega
      have e1 : fill Pg.u false L k = L.map Pg.u := by rw [HLn.out, fill_all]
      have e2 : fill (fun x : Pg => decide (x.st = 1)) false L k = L.map fun x => decide (x.st = 1) := by rw [HLn.out, fill_all]
      rw [e1, e2] at HO
      clear e1 e2 ho1 ho2 hh
      have hr1 := HO.out.1.reads boC_len
      have hr2 := HO.out.2.1.reads boC_len
      have HVI := Lib.hid (victim_any (some ⟨ga, 0, none⟩) k k (L.map Pg.u) (some ⟨gb, 0, none⟩) k k (L.map fun x => decide (x.st = 1)) hand (-1) wr hr1.1 (fun e => by cases e) hr2.1 (by omega) (by omega) (by omega) (by omega))
      clear hr1 hr2
      have HW := Lib.hid HO.out.2.2
      clear HO
      obtain ⟨v, hv⟩ : ∃ v, evV L hand = v := ⟨_, rfl⟩
      have hv' : vicV (L.map Pg.u) (L.map fun x => decide (x.st = 1)) hand (-1) = v := hv
      obtain ⟨M, hM⟩ : ∃ M, evM L hand = M := ⟨_, rfl⟩
      have hM' : vicU (L.map Pg.u) (L.map fun x => decide (x.st = 1)) hand (-1) = M := hM
      rw [hv', hM'] at HVI
      have HVV := Lib.hid hv
      have HMM := Lib.hid hM
      have hMl : M.length = k := by rw [← hM']; rw [vicU_len, List.length_map]; exact HLn.out.symm
      have HML := Lib.hid hMl
      clear hv hv' hM hM' hMl
      go_wp2_with fail
      refine HVI.out.mono ?_
      rintro e w3 ⟨mv, rfl, hoM, h3⟩
      obtain ⟨Am, capm, rfl, _, _⟩ := hoM.shape
      have HG3 := Lib.hid ((HG.out.keep HW.out).keep h3)
      have HW3 := Lib.hid (HW.out.step h3)
      have HOM := Lib.hid hoM
      clear c0 c1 c2 f0 f2 hlt hoM h3 HVI
      obtain ⟨c0, c1, c2, f0, f2, hlt⟩ := HG3.out.cells
      by_cases hv0 : v < 0
      · have HL0 : Hid (evL L hand = L ∧ evH L hand = hand) := ⟨by unfold evL; rw [HVV.out, if_pos hv0], by unfold evH; rw [HVV.out, if_pos hv0]⟩
        go_wp2
        refine bodyPost_ret (results_none Try.results37 _ _ _) rfl ?_
        exact ⟨rfl, by rw [HL0.out.1, HL0.out.2]; exact HG3.out, Kb.held HW3.out⟩
      · have hgk : Hid (∀ g, A = some ⟨g, 0, none⟩ → g < wr.heap.size) := fun g hg => by
          have := (World.ownsRow.lt HG.out.own g (by rw [hg]; rfl)).2
          have := HW.out.le
          omega
        go_wp2
        obtain ⟨wb, hwb⟩ : ∃ wb, wb = wr.heap.size := ⟨_, rfl⟩
        rw [← hwb] at HOM hgk
        have hwb2 : Hid (w.heap.size ≤ wb) := by rw [hwb]; exact HW.out.le
        clear hwb HW
        go_loopw [62] (fun i wr => ∃ j : Nat, i = .int .i64 j ∧ j ≤ k ∧ Gr W pb A k cap lim hand (markK L M j) wr ∧ Kb pb (.slice A k cap) w wr ∧ Own 4 1 boC wb wr (.slice Am M.length capm) M) (fun i _ => k - (intOf i).toNat)
        case atStart => exact ⟨0, rfl, Nat.zero_le _, by rw [markK_zero]; exact HG3.out, Kb.held HW3.out, HOM.out⟩
        case round =>
          obtain ⟨j, rfl, hj, hG, hK, hM⟩ := hrel
          have HO := Lib.hid (And.intro hG (And.intro hK hM))
          clear c0 c1 c2 f0 f2 hlt
          obtain ⟨c0, c1, c2, f0, f2, hlt⟩ := hG.cells
          by_cases hjk : (j : Int) < k
          · have hjL : j < L.length := by have := HLn.out; omega
            obtain ⟨g, rfl, hg1, hg2, hsl⟩ := Own.slot pgC_len hG.own (by decide) (k := j) (by rw [markK_len]; exact hjL)
            rw [markK_at L M j hjL] at hsl
            have y0 := (hsl 2 (by decide)).2 _ rfl
            have z0 := (hsl 2 (by decide)).1
            obtain ⟨ub, hub⟩ : ∃ ub, (L[j]'hjL).u = ub := ⟨_, rfl⟩
            rw [hub] at y0
            clear hub
            have hjM : j < M.length := by have := HML.out; omega
            obtain ⟨gm, rfl, hgm1, hgm2, hsm⟩ := Own.slot boC_len hM (by decide) hjM
            obtain ⟨mb, hmb⟩ : ∃ mb, M[j] = mb := ⟨_, rfl⟩
            have m0 := (hsm 0 (by decide)).2 _ rfl
            rw [Nat.add_zero, Nat.mul_one, hmb] at m0
            have hgd : M.getD j false = mb := by rw [List.getD_eq_getElem?_getD, List.getElem?_eq_getElem hjM, hmb]; rfl
            have hnx := markK_next L M j hjL
            rw [hgd] at hnx
            have hput := Gr.put hG (k := j) (i := 2) (by rw [markK_len]; exact hjL) (by decide) (.bool mb) ⟨L[j].st, L[j].d, mb⟩ (by rw [markK_at L M j hjL]; rfl)
            rw [hnx] at hput
            have hgg : ¬ gm = g := by have := hgk.out g rfl; omega
            have HP := Lib.hid (And.intro hput (And.intro (Kb.set hK (j * 3 + 2) (.bool mb)) (Own.far hM (c := g) (j := j * 3 + 2) (u := .bool mb) (by simp [Value.ownBlock]; exact hgg))))
            have i1 : (j : Int) < M.length := by omega
            have hgpb : ¬ g = pb := hG.ne g rfl
            clear hsl hsm hmb hgd hnx hput hG hK hM hjL
            go_wp2
            go_region
            all_goals
              go_wp2
              go_roundw
              case rel => exact ⟨j + 1, by go_num, by omega, HP.out.1.keep (Held.refl _).drew, HP.out.2.1.step (Held.refl _).drew, Own.heldB HP.out.2.2 (Held.refl _).drew⟩
              case measure => (simp [intOf]) <;> omega
          · obtain rfl : j = k := by omega
            have hmk : markK L M j = mark L M := by rw [HLn.out, markK_all]
            rw [hmk] at hG
            have hlt2 : v < j := by
              have h1 := HVV.out
              unfold evV at h1
              have h2 := vicV_lt (U := L.map Pg.u) (R := L.map fun x => decide (x.st = 1)) (hand := hand) (ex := -1) (by rw [h1]; omega)
              rw [h1, List.length_map] at h2
              have := HLn.out; omega
            obtain ⟨vn, rfl⟩ := Int.eq_ofNat_of_zero_le (show 0 ≤ v by omega)
            have hvL : vn < L.length := by have := HLn.out; omega
            obtain ⟨d, hdv⟩ : ∃ d, (L[vn]'hvL).d = d := ⟨_, rfl⟩
            have hdz := HD.out _ (List.getElem_mem hvL)
            rw [hdv] at hdz
            have hml : (mark L M).length = L.length := by simp [mark]
            obtain ⟨g, rfl, hg1, hg2, hsl⟩ := Own.slot pgC_len hG.own (by decide) (k := vn) (by rw [hml]; exact hvL)
            obtain ⟨xm, hxm⟩ : ∃ xm, (mark L M)[vn]'(by rw [hml]; exact hvL) = xm := ⟨_, rfl⟩
            rw [hxm] at hsl
            have hxd : xm.d = d := by rw [← hxm, ← hdv]; simp [mark]
            have y1 := (hsl 1 (by decide)).2 _ rfl
            have y0 := (hsl 0 (by decide)).2 _ rfl
            have y2 := (hsl 2 (by decide)).2 _ rfl
            rw [hxd] at y1
            rw [Nat.add_zero] at y0
            have z0 := (hsl 0 (by decide)).1
            have z1 := (hsl 1 (by decide)).1
            have z2 := (hsl 2 (by decide)).1
            rw [Nat.add_zero] at z0
            have HPO := Lib.hid (fun w => putOut_any d w (by omega))
            obtain ⟨po, hpo⟩ : ∃ po, putOut d = po := ⟨_, rfl⟩
            rw [hpo] at HPO
            unfold RetP pgV at HPO
            have HEL : Hid (evL L hand = (mark L M).set vn po) := show _ = _ by
              unfold evL
              rw [HVV.out, if_neg (by omega), HMM.out, show ((vn : Int)).toNat = vn by omega, List.getElem?_eq_getElem hvL, Option.map_some, hdv]
              show (mark L M).set vn (putOut d) = _
              rw [hpo]
            have HEH : Hid (evH L hand = vicH (L.map Pg.u) (L.map fun x => decide (x.st = 1)) hand (-1)) := show _ = _ by
              unfold evH; rw [HVV.out, if_neg (by omega)]
            have HO2 := Lib.hid (And.intro hG hK)
            have i1 : (0 : Int) ≤ vn := by omega
            have i2 : (vn : Int) < j := by omega
            have hgpb : ¬ g = pb := hG.ne g rfl
            have hVL : Hid (vn < (mark L M).length) := show _ < _ by rw [hml]; exact hvL
            have HF := Lib.hid (fun w' (h : Held wr w') => And.intro (h.cell c0) (And.intro (h.cell y0) (And.intro (h.cell y1) (And.intro (h.cell y2) (And.intro ((Below.frozen h (p := ⟨g, vn * 3, none⟩) hg2).trans z0) (And.intro ((Below.frozen h (p := ⟨g, vn * 3 + 1, none⟩) hg2).trans z1) (And.intro ((Below.frozen h (p := ⟨g, vn * 3 + 2, none⟩) hg2).trans z2) (And.intro (h.cell c2) ((Below.frozen h (p := ⟨pb, 2, none⟩) hlt).trans f2)))))))))
            clear hsl hdv hxm hxd hpo hml hmk hM hG hK HO hvL
            go_wp2
            go_region_with (first | (go_at_call 27; refine (HPO.out _).mono ?_; rintro e w5 ⟨rfl, h5⟩; have H5 := Lib.hid ((Held.refl wr).drew.step h5); obtain ⟨c0, y0, y1, y2, z0, z1, z2, c2, f2⟩ := HF.out _ H5.out; clear h5))
            all_goals
              go_wp2
              go_end0
              exact ⟨rfl, by rw [HEH.out, HEL.out]; exact ((HO2.out.1.keep H5.out).putAll hVL.out po).hand _, ((((HO2.out.2.step H5.out).set (vn * 3) _).set (vn * 3 + 1) _).set (vn * 3 + 2) _).setBox 2 _⟩
end Pg
end Go.Proofs.Ytgfbfmgdlbdlhaa
