/-
  A guest that is admitted beside guests that fit, fits with them: the walk.
-/
import Derived.Test.YtmpbmckigejagaaAwk39
import Derived.Test.YtmpbmckigejagaaSl
import Derived.Deep.RegionLaw
namespace Go.Proofs.Ytmpbmckigejagaa
open Go.RowKit
set_option linter.unusedVariables false
set_option maxRecDepth 100000
namespace Law39
open Ad Adm Rw
theorem fitsTo_app (m c : Int) (up : Bool) (L M : List Dem) : ∀ k, k ≤ L.length → fitsTo m c up (L ++ M) k = fitsTo m c up L k
  | 0, _ => rfl
  | k + 1, h => by
    rw [fitsTo, fitsTo, fitsTo_app m c up L M k (by omega), List.getElem?_append_left (by omega), List.take_append_of_le_length (by omega)]
theorem fits_snoc (m c : Int) (up : Bool) (L : List Dem) (d : Dem) : fits m c up (L ++ [d]) = (fits m c up L && decide (admit m c up L d = 0)) := by
  unfold fits
  rw [List.length_append, List.length_singleton, fitsTo, fitsTo_app m c up L [d] _ (Nat.le_refl _), List.getElem?_append_right (Nat.le_refl _)]
  simp
def demC (d : Dem) : List Value := [.int .i64 d.r, .int .i64 d.l, .int .i64 d.c, .int .i64 d.g]
/-- What the worlds of the last statement keep: the boxes of the host and of the guest, the row of demands. -/
structure St (W : World) (bc bd : Nat) (m c : Int) (d : Dem) (v : Value) (L : List Dem) (w : World) : Prop where
  c0 : w.cell? ⟨bc, 0, none⟩ = some (.int .i64 m)
  c1 : w.cell? ⟨bc, 1, none⟩ = some (.int .i64 c)
  c2 : w.cell? ⟨bc, 2, none⟩ = some (.bool true)
  d0 : w.cell? ⟨bd, 0, none⟩ = some (.int .i64 d.r)
  d1 : w.cell? ⟨bd, 1, none⟩ = some (.int .i64 d.l)
  d2 : w.cell? ⟨bd, 2, none⟩ = some (.int .i64 d.c)
  d3 : w.cell? ⟨bd, 3, none⟩ = some (.int .i64 d.g)
  own : w.ownsRow W.heap.size 30 4 v L.length (cells L)
  n1 : some bc ≠ v.ownBlock
  n2 : some bd ≠ v.ownBlock
  hh : Held W w
def S7 (W : World) (bc bd : Nat) (m c : Int) (d : Dem) (v : Value) (L : List Dem) (w : World) : Prop :=
  w.cell? ⟨bc, 0, none⟩ = some (.int .i64 m) ∧ w.cell? ⟨bc, 1, none⟩ = some (.int .i64 c) ∧ w.cell? ⟨bc, 2, none⟩ = some (.bool true) ∧
  w.cell? ⟨bd, 0, none⟩ = some (.int .i64 d.r) ∧ w.cell? ⟨bd, 1, none⟩ = some (.int .i64 d.l) ∧ w.cell? ⟨bd, 2, none⟩ = some (.int .i64 d.c) ∧ w.cell? ⟨bd, 3, none⟩ = some (.int .i64 d.g) ∧ St W bc bd m c d v L w
theorem St.held {W : World} {bc bd : Nat} {m c : Int} {d : Dem} {v : Value} {L : List Dem} {w a : World} (h : St W bc bd m c d v L w) (ha : Held w a) : St W bc bd m c d v L a :=
  ⟨ha.cell h.c0, ha.cell h.c1, ha.cell h.c2, ha.cell h.d0, ha.cell h.d1, ha.cell h.d2, ha.cell h.d3, own_held h.own ha, h.n1, h.n2, h.hh.step ha⟩
theorem St.mk7 {W : World} {bc bd : Nat} {m c : Int} {d : Dem} {v : Value} {L : List Dem} {w : World} (h : St W bc bd m c d v L w) : S7 W bc bd m c d v L w := ⟨h.c0, h.c1, h.c2, h.d0, h.d1, h.d2, h.d3, h⟩
theorem St.app {W : World} {bc bd : Nat} {m c : Int} {d : Dem} {v : Value} {L : List Dem} {w a : World} (h : St W bc bd m c d v L w) (ho : Own 30 4 demC W.heap.size a v L) (hg : w.grownBy a v.ownBlock) : St W bc bd m c d v L a :=
  ⟨hg.cell h.c0 h.n1, hg.cell h.c1 h.n1, hg.cell h.c2 h.n1, hg.cell h.d0 h.n2, hg.cell h.d1 h.n2, hg.cell h.d2 h.n2, hg.cell h.d3 h.n2, ho, h.n1, h.n2, held_grown h.hh h.own hg⟩
theorem St.ds {W : World} {bc bd : Nat} {m c : Int} {d : Dem} {A : Option Addr} {n cap : Nat} {L : List Dem} {w : World} (h : St W bc bd m c d (.slice A n cap) L w) : Ds w A n L := by
  have h1 := ds_of_own h.own
  have h2 := h1.2.1
  subst h2
  exact h1.1
theorem St.alloc7 {W : World} {bc bd : Nat} {m c : Int} {d : Dem} {v : Value} {L : List Dem} {w : World} (h : S7 W bc bd m c d v L w) (o : Obj) : St W bc bd m c d v L (w.alloc o) := h.2.2.2.2.2.2.2.held ((Held.refl _).alloc _)
theorem St.held7 {W : World} {bc bd : Nat} {m c : Int} {d : Dem} {v : Value} {L : List Dem} {w a : World} (h : S7 W bc bd m c d v L w) (ha : Held w a) : St W bc bd m c d v L a := h.2.2.2.2.2.2.2.held ha
theorem St.ds7 {W : World} {bc bd : Nat} {m c : Int} {d : Dem} {A : Option Addr} {n cap : Nat} {L : List Dem} {w : World} (h : S7 W bc bd m c d (.slice A n cap) L w) : Ds w A n L := h.2.2.2.2.2.2.2.ds
theorem St.own7 {W : World} {bc bd : Nat} {m c : Int} {d : Dem} {v : Value} {L : List Dem} {w : World} (h : S7 W bc bd m c d v L w) : Own 30 4 demC W.heap.size w v L := h.2.2.2.2.2.2.2.own
theorem St.le7 {W : World} {bc bd : Nat} {m c : Int} {d : Dem} {v : Value} {L : List Dem} {w : World} (h : S7 W bc bd m c d v L w) : W.heap.size ≤ w.heap.size := h.2.2.2.2.2.2.2.hh.le
theorem St.app7 {W : World} {bc bd : Nat} {m c : Int} {d : Dem} {v : Value} {L : List Dem} {w a : World} (h : S7 W bc bd m c d v L w) (ho : Own 30 4 demC W.heap.size a v L) (hg : w.grownBy a v.ownBlock) : St W bc bd m c d v L a := h.2.2.2.2.2.2.2.app ho hg
theorem demC_one (d : Dem) : ∀ u ∈ demC d, u.oneCell' = true := by intro u hu; simp [demC] at hu; rcases hu with rfl | rfl | rfl | rfl <;> rfl
theorem news4 {w : World} {B : Nat} {d : Dem} (h0 : w.cell? ⟨B, 0, none⟩ = some (.int .i64 d.r)) (h1 : w.cell? ⟨B, 1, none⟩ = some (.int .i64 d.l)) (h2 : w.cell? ⟨B, 2, none⟩ = some (.int .i64 d.c)) (h3 : w.cell? ⟨B, 3, none⟩ = some (.int .i64 d.g)) :
    ∀ j u, (demC d)[j]? = some u → w.cell? ((⟨B, 0, none⟩ : Addr).add j) = some u := by
  intro j u hj
  match j, hj with
  | 0, hj => simp [demC] at hj; subst hj; exact h0
  | 1, hj => simp [demC] at hj; subst hj; exact h1
  | 2, hj => simp [demC] at hj; subst hj; exact h2
  | 3, hj => simp [demC] at hj; subst hj; exact h3
  | j + 4, hj => simp [demC] at hj
theorem Own.ds {w : World} {base : Nat} {A : Option Addr} {n cap : Nat} {L : List Dem} (h : Own 30 4 demC base w (.slice A n cap) L) : Ds w A n L := by
  have h1 := ds_of_own h
  have h2 := h1.2.1
  subst h2
  exact h1.1
set_option maxHeartbeats 4000000 in
theorem adds (o0 : Option Addr) (len0 cap0 : Nat) (z0 : List Int) (a1 a2 a3 : Int) (w1 : (Lit.int .i64 a1).wf = true) (w2 : (Lit.int .i64 a2).wf = true) (w3 : (Lit.int .i64 a3).wf = true) (W : World) (w0 : IsRow .i64 W o0 len0 cap0 z0) :
    Calls Try.prog 4 #[.slice o0 len0 cap0, .int .i64 a1, .int .i64 a2, .int .i64 a3] W fun e w' => e = .returned (.bool true) ∧ Below W.heap.size W w' := by
  have hm := bd_i64 w2
  have hc := bd_i64 w3
  obtain ⟨L, hL, hmax, hwf, hcell⟩ := w0.view
  clear w0 w1 w2 w3
  have hmx : (len0 : Int) ≤ 9223372036854775807 := by unfold maxLen at hmax; omega
  by_cases h1 : (12 : Int) < len0
  · go_enter Try.func4, Try.ntmps4
    go_wp2_with (go_at_call 7; refine (Law39.awake_any _).mono ?_; rintro e w1 ⟨rfl, hb⟩)
    go_ret
    exact ⟨rfl, hb⟩
  · go_enter Try.func4, Try.ntmps4
    go_wp2_with (first | (go_at_call 8; refine (Mk.round_any _ _ (by omega) (by omega) (by decide) (by decide) _).mono ?_; rintro e w1 ⟨rfl, rfl⟩))
    have hcell1 : len0 = 0 ∨ ∃ b off, o0 = some ⟨b, off, none⟩ ∧ b < (W.alloc (.cells #[.int .i64 (Mk.round a2 60), .int .i64 (Mk.round a3 60), .bool true] 26)).heap.size ∧ ∀ i (h : i < L.length), (W.alloc (.cells #[.int .i64 (Mk.round a2 60), .int .i64 (Mk.round a3 60), .bool true] 26)).cell? ⟨b, off + i, none⟩ = some (.int .i64 L[i]) := by
      rcases hcell with h | ⟨b, off, e, hb, hc⟩
      · exact .inl h
      · exact .inr ⟨b, off, e, by simp; omega, fun i hi => ((Held.refl W).alloc _).cell (hc i hi)⟩
    refine (demands_make _ _ _ L _ hL (by omega) hcell1).mono ?_
    rintro e w1 ⟨v, rfl, hown, hh⟩
    obtain ⟨A, cp, rfl, hcp⟩ := own_slice hown
    have b0 := hh.cell (p := ⟨W.heap.size, 0, none⟩) (v := .int .i64 (Mk.round a2 60)) (by simp)
    have b1 := hh.cell (p := ⟨W.heap.size, 1, none⟩) (v := .int .i64 (Mk.round a3 60)) (by simp)
    have b2 := hh.cell (p := ⟨W.heap.size, 2, none⟩) (v := .bool true) (by simp)
    obtain ⟨hds, hn, _⟩ := ds_of_own hown
    have hL2 : (L.map dem).length = len0 := by simp [hL]
    rw [hL2] at hds
    have lt1 := lt_of_cell b0
    go_wp2_with fail
    refine (fits_any _ _ _ _ _ _ (L.map dem) _ hds (by omega) (by omega)).mono ?_
    rintro e w2 ⟨rfl, h2⟩
    have hw2 : Held W w2 := (((Held.refl W).alloc _).step hh).step h2
    obtain ⟨ft, hft⟩ : ∃ x, fits (Mk.round a2 60) (Mk.round a3 60) true (L.map dem) = x := ⟨_, rfl⟩
    have HFT := Lib.hid hft
    rw [hft]
    clear hft
    have o2 := own_held hown h2
    have c0 := h2.cell b0
    have c1 := h2.cell b1
    have c2 := h2.cell b2
    have HD := Lib.hid (hds.held h2)
    clear b0 b1 b2 lt1 hown hds
    have lt1 := lt_of_cell c0
    cases ft with
    | false =>
      go_wp2_with (go_at_call 7; refine (Law39.awake_any _).mono ?_; rintro e w3 ⟨rfl, hb⟩)
      go_ret
      exact ⟨rfl, hw2.step hb⟩
    | true =>
      go_wp2_with (go_at_call 11; refine (demand_any _ _).mono ?_; rintro e w3 ⟨rfl, h3⟩)
      obtain ⟨d, hd⟩ : ∃ d, dem a1 = d := ⟨_, rfl⟩
      have o2' : w2.ownsRow (W.alloc (.cells #[.int .i64 (Mk.round a2 60), .int .i64 (Mk.round a3 60), .bool true] 26)).heap.size 30 4 (.slice A len0 cp) (L.map dem).length (cells (L.map dem)) := by
        have := o2
        rw [show Value.slice A (L.map dem).length cp = Value.slice A len0 cp by rw [hL2]] at this
        exact this
      clear o2
      have hnb : ∀ b, w2.heap.size ≤ b → some b ≠ (Value.slice A len0 cp).ownBlock := by
        intro b hb e
        have := (World.ownsRow.lt o2' b e.symm).2
        omega
      have o3 : w2.ownsRow W.heap.size 30 4 (.slice A len0 cp) (L.map dem).length (cells (L.map dem)) := Own.mono (f := demC) o2' (by simp)
      have hnc : some W.heap.size ≠ (Value.slice A len0 cp).ownBlock := by
        intro e
        have := (World.ownsRow.lt o2' _ e.symm).1
        simp at this; omega
      have st0 : St W W.heap.size w3.heap.size (Mk.round a2 60) (Mk.round a3 60) d (.slice A len0 cp) (L.map dem) (w3.alloc (.cells #[.int .i64 (dem a1).r, .int .i64 (dem a1).l, .int .i64 (dem a1).c, .int .i64 (dem a1).g] 30)) := by
        have ha := h3.alloc (.cells #[.int .i64 (dem a1).r, .int .i64 (dem a1).l, .int .i64 (dem a1).c, .int .i64 (dem a1).g] 30)
        subst hd
        exact ⟨ha.cell c0, ha.cell c1, ha.cell c2, by simp, by simp, by simp, by simp, own_held o3 ha, hnc, hnb _ h3.le, hw2.step ha⟩
      have hl4 : (L.map dem).length ≤ 12 := by omega
      have hb0 : W.heap.size ≤ w3.heap.size := Nat.le_trans hw2.le h3.le
      obtain ⟨ad, had⟩ : ∃ x, admit (Mk.round a2 60) (Mk.round a3 60) true (L.map dem) d = x := ⟨_, rfl⟩
      have HAD := Lib.hid had
      have hfa := fits_snoc (Mk.round a2 60) (Mk.round a3 60) true (L.map dem) d
      rw [HFT.out, had, Bool.true_and] at hfa
      obtain ⟨m, hm'⟩ : ∃ m, Mk.round a2 60 = m := ⟨_, rfl⟩
      obtain ⟨c, hc'⟩ : ∃ c, Mk.round a3 60 = c := ⟨_, rfl⟩
      rw [hm', hc'] at HAD hfa st0
      rw [hd] at st0
      rw [hd]
      generalize w3.alloc (.cells #[.int .i64 d.r, .int .i64 d.l, .int .i64 d.c, .int .i64 d.g] 30) = w4 at st0 ⊢
      generalize w3.heap.size = bd at st0 hb0 ⊢
      have s0 := st0.c0
      have s1 := st0.c1
      have s2 := st0.c2
      have s3 := st0.d0
      have s4 := st0.d1
      have s5 := st0.d2
      have s6 := st0.d3
      have SM := Lib.hid (St.mk7 (st0.held (Held.refl _).drew))
      have HL3 : Hid ((L.map dem).length = len0) := hL2
      clear st0 hd hm' hc' had hL2 hL hcell hcell1 hwf hnb o2' o3 hnc c0 c1 c2 h3 h2 hh HD HFT hm hc hmax
      generalize L.map dem = M at *
      by_cases ha : ad = 0
      · have ha' : (ad == 0) = true := by simp [ha]
        have HFA : Hid (fits m c true (M ++ [d]) = true) := show _ = _ by rw [hfa]; simp [ha]
        clear hfa ha
        go_region_held3 (fun w' => w'.cell? ⟨W.heap.size, 0, none⟩ = some (.int .i64 m) ∧ w'.cell? ⟨W.heap.size, 1, none⟩ = some (.int .i64 c) ∧ w'.cell? ⟨W.heap.size, 2, none⟩ = some (.bool true) ∧ w'.cell? ⟨bd, 0, none⟩ = some (.int .i64 d.r) ∧ w'.cell? ⟨bd, 1, none⟩ = some (.int .i64 d.l) ∧ w'.cell? ⟨bd, 2, none⟩ = some (.int .i64 d.c) ∧ w'.cell? ⟨bd, 3, none⟩ = some (.int .i64 d.g) ∧ St W W.heap.size bd m c d (.slice A len0 cp) M w')
          (first | exact SM.out | exact St.mk7 (by assumption) | exact St.mk7 (St.alloc7 (by assumption) _))
          (first | (go_at_call 12; refine (admit_any _ _ _ _ _ _ M _ _ _ _ _ (St.ds7 (by assumption)) (by omega)).mono ?_; rintro e w5 ⟨rfl, h5⟩; have st5 := St.held7 (by assumption) h5; rw [HAD.out]) | (go_at_call 10; refine (fits_any _ _ _ _ _ _ (M ++ [d]) _ (by first | exact Own.ds hown6 | exact (Own.ds hown6).held (by assumption)) (by omega) (Own.cap hown6)).mono ?_; rintro e w7 ⟨rfl, h7⟩; have st7 := St.held7 (by assumption) h7; rw [HFA.out]) | (go_at_call 7; refine (Law39.awake_any _).mono ?_; rintro e w8 ⟨rfl, h8⟩; have st8 := St.held7 (by assumption) h8) | (refine Own.step_app (f := demC) _ (by rfl) _ _ _ (by rfl) _ 32 Try.underlying27 info_dem (by rfl) (by decide) (fun _ => rfl) demC_one W.heap.size (.slice A len0 cp) M d _ _ (by rfl) (St.own7 (by assumption)) (by rfl) (news4 (by first | (simp; done) | exact Held.cell (by assumption) (by simp)) (by first | (simp; done) | exact Held.cell (by assumption) (by simp)) (by first | (simp; done) | exact Held.cell (by assumption) (by simp)) (by first | (simp; done) | exact Held.cell (by assumption) (by simp))) (by omega) (by decide) (St.le7 (by assumption)) ?_; intro g6 cap6 w6 hown6 hkeep6 hg6 hat6 hlt6; have st6 := St.app7 (by assumption) hkeep6 hg6))
        all_goals
          go_wp2
          go_ret
          exact ⟨rfl, St.hh (by assumption)⟩
      · have ha' : (ad == 0) = false := by simp [ha]
        have HFA : Hid (fits m c true (M ++ [d]) = false) := show _ = _ by rw [hfa]; simp [ha]
        clear hfa ha
        go_region_held3 (fun w' => w'.cell? ⟨W.heap.size, 0, none⟩ = some (.int .i64 m) ∧ w'.cell? ⟨W.heap.size, 1, none⟩ = some (.int .i64 c) ∧ w'.cell? ⟨W.heap.size, 2, none⟩ = some (.bool true) ∧ w'.cell? ⟨bd, 0, none⟩ = some (.int .i64 d.r) ∧ w'.cell? ⟨bd, 1, none⟩ = some (.int .i64 d.l) ∧ w'.cell? ⟨bd, 2, none⟩ = some (.int .i64 d.c) ∧ w'.cell? ⟨bd, 3, none⟩ = some (.int .i64 d.g) ∧ St W W.heap.size bd m c d (.slice A len0 cp) M w')
          (first | exact SM.out | exact St.mk7 (by assumption) | exact St.mk7 (St.alloc7 (by assumption) _))
          (first | (go_at_call 12; refine (admit_any _ _ _ _ _ _ M _ _ _ _ _ (St.ds7 (by assumption)) (by omega)).mono ?_; rintro e w5 ⟨rfl, h5⟩; have st5 := St.held7 (by assumption) h5; rw [HAD.out]) | (go_at_call 10; refine (fits_any _ _ _ _ _ _ (M ++ [d]) _ (by first | exact Own.ds hown6 | exact (Own.ds hown6).held (by assumption)) (by omega) (Own.cap hown6)).mono ?_; rintro e w7 ⟨rfl, h7⟩; have st7 := St.held7 (by assumption) h7; rw [HFA.out]) | (go_at_call 7; refine (Law39.awake_any _).mono ?_; rintro e w8 ⟨rfl, h8⟩; have st8 := St.held7 (by assumption) h8) | (refine Own.step_app (f := demC) _ (by rfl) _ _ _ (by rfl) _ 32 Try.underlying27 info_dem (by rfl) (by decide) (fun _ => rfl) demC_one W.heap.size (.slice A len0 cp) M d _ _ (by rfl) (St.own7 (by assumption)) (by rfl) (news4 (by first | (simp; done) | exact Held.cell (by assumption) (by simp)) (by first | (simp; done) | exact Held.cell (by assumption) (by simp)) (by first | (simp; done) | exact Held.cell (by assumption) (by simp)) (by first | (simp; done) | exact Held.cell (by assumption) (by simp))) (by omega) (by decide) (St.le7 (by assumption)) ?_; intro g6 cap6 w6 hown6 hkeep6 hg6 hat6 hlt6; have st6 := St.app7 (by assumption) hkeep6 hg6))
        all_goals
          go_wp2
          go_ret
          exact ⟨rfl, St.hh (by assumption)⟩
end Law39
end Go.Proofs.Ytmpbmckigejagaa
