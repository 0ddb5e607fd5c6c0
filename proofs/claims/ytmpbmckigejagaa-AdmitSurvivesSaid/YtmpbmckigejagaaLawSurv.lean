/-
  A placement that survives, behind the crash of a host: the walk.
-/
import Derived.Test.YtmpbmckigejagaaOpen39
import Derived.Test.YtmpbmckigejagaaAdSurv
import Derived.Deep.RegionLaw
namespace Go.Proofs.Ytmpbmckigejagaa
open Go.RowKit
set_option linter.unusedVariables false
set_option maxRecDepth 100000
namespace Law39
open Ad Adm Rw
def hostC (n : Int) : Cap := ⟨Mk.round n 40, 40, true⟩
def plOf (l on : List Int) (nh : Nat) (i : Nat) : Pl := ⟨ByteArray.empty, dem (l.getD i 0), Mk.round (on.getD (2 * i) 0) nh, Mk.round (on.getD (2 * i + 1) 0) nh⟩
def plsOf (l on : List Int) (nh : Nat) (k : Nat) : List Pl := (List.range k).map (plOf l on nh)
theorem plsOf_succ (l on : List Int) (nh k : Nat) : plsOf l on nh (k + 1) = plsOf l on nh k ++ [plOf l on nh k] := by unfold plsOf; rw [List.range_succ, List.map_append]; rfl
theorem plsOf_len (l on : List Int) (nh k : Nat) : (plsOf l on nh k).length = k := by simp [plsOf]
theorem hosts_snoc (L : List Int) (k : Nat) (n : Int) (h : L[k]? = some n) : (L.take (k + 1)).map hostC = (L.take k).map hostC ++ [hostC n] := by
  obtain ⟨hk, rfl⟩ := List.getElem?_eq_some_iff.1 h
  rw [List.take_succ_eq_append_getElem hk, List.map_append]; rfl
theorem capC_one (c : Cap) : ∀ u ∈ capC c, u.oneCell' = true := by intro u hu; simp [capC] at hu; rcases hu with rfl | rfl | rfl <;> rfl
theorem plC_one (c : Pl) : ∀ u ∈ plC c, u.oneCell' = true := by intro u hu; simp [plC] at hu; rcases hu with rfl | rfl | rfl | rfl | rfl | rfl | rfl <;> rfl
theorem info_cap : (Try.prog.info? 26).map (fun i => (i.zero, i.size, i.bytes)) = some (some (.agg #[.int .i64 0, .int .i64 0, .bool false]), 3, 24) := by kernel_rfl
theorem news3 {w : World} {B : Nat} {d : Cap} (h0 : w.cell? ⟨B, 0, none⟩ = some (.int .i64 d.m)) (h1 : w.cell? ⟨B, 1, none⟩ = some (.int .i64 d.c)) (h2 : w.cell? ⟨B, 2, none⟩ = some (.bool d.up)) :
    ∀ j u, (capC d)[j]? = some u → w.cell? ((⟨B, 0, none⟩ : Addr).add j) = some u := by
  intro j u hj
  match j, hj with
  | 0, hj => simp [capC] at hj; subst hj; exact h0
  | 1, hj => simp [capC] at hj; subst hj; exact h1
  | 2, hj => simp [capC] at hj; subst hj; exact h2
  | j + 3, hj => simp [capC] at hj
def T2 (wA : World) (v : Value) (L : List Pl) (w : World) : Prop := Held wA w ∧ Own 48 7 plC wA.heap.size w v L
def S2 (b1 o1 b2 o2 o3 : Nat) (x0 x1 x2 : Int) (wA : World) (v : Value) (L : List Pl) (w : World) : Prop := w.cell? ⟨b1, o1, none⟩ = some (.int .i64 x0) ∧ w.cell? ⟨b2, o2, none⟩ = some (.int .i64 x1) ∧ w.cell? ⟨b2, o3, none⟩ = some (.int .i64 x2) ∧ T2 wA v L w
theorem S2.held {b1 o1 b2 o2 o3 : Nat} {x0 x1 x2 : Int} {wA : World} {v : Value} {L : List Pl} {w a : World} (h : S2 b1 o1 b2 o2 o3 x0 x1 x2 wA v L w) (ha : Held w a) : S2 b1 o1 b2 o2 o3 x0 x1 x2 wA v L a :=
  ⟨ha.cell h.1, ha.cell h.2.1, ha.cell h.2.2.1, h.2.2.2.1.step ha, Own.held h.2.2.2.2 ha⟩
theorem S2.own {b1 o1 b2 o2 o3 : Nat} {x0 x1 x2 : Int} {wA : World} {v : Value} {L : List Pl} {w : World} (h : S2 b1 o1 b2 o2 o3 x0 x1 x2 wA v L w) : Own 48 7 plC wA.heap.size w v L := h.2.2.2.2
theorem S2.le {b1 o1 b2 o2 o3 : Nat} {x0 x1 x2 : Int} {wA : World} {v : Value} {L : List Pl} {w : World} (h : S2 b1 o1 b2 o2 o3 x0 x1 x2 wA v L w) : wA.heap.size ≤ w.heap.size := h.2.2.2.1.le
theorem S2.app {b1 o1 b2 o2 o3 : Nat} {x0 x1 x2 : Int} {wA : World} {v : Value} {L : List Pl} {w a : World} (h1 : b1 < wA.heap.size) (h2 : b2 < wA.heap.size) (h : S2 b1 o1 b2 o2 o3 x0 x1 x2 wA v L w) (ho : Own 48 7 plC wA.heap.size a v L) (hg : w.grownBy a v.ownBlock) : S2 b1 o1 b2 o2 o3 x0 x1 x2 wA v L a := by
  have hne : ∀ b, b < wA.heap.size → some b ≠ v.ownBlock := fun b hb e => by
    have := (World.ownsRow.lt h.own b e.symm).1; omega
  exact ⟨hg.cell h.1 (hne _ h1), hg.cell h.2.1 (hne _ h2), hg.cell h.2.2.1 (hne _ h2), held_grown h.2.2.2.1 h.own hg, ho⟩
theorem info_pl : (Try.prog.info? 48).map (fun i => (i.zero, i.size, i.bytes)) = some (some (.agg #[.string ByteArray.empty, .int .i64 0, .int .i64 0, .int .i64 0, .int .i64 0, .int .i64 0, .int .i64 0]), 7, 64) := by kernel_rfl
theorem news7 {w : World} {B : Nat} {d : Pl} (h0 : w.cell? ⟨B, 0, none⟩ = some (.string d.nm)) (h1 : w.cell? ⟨B, 1, none⟩ = some (.int .i64 d.d.r)) (h2 : w.cell? ⟨B, 2, none⟩ = some (.int .i64 d.d.l)) (h3 : w.cell? ⟨B, 3, none⟩ = some (.int .i64 d.d.c)) (h4 : w.cell? ⟨B, 4, none⟩ = some (.int .i64 d.d.g)) (h5 : w.cell? ⟨B, 5, none⟩ = some (.int .i64 d.a)) (h6 : w.cell? ⟨B, 6, none⟩ = some (.int .i64 d.b)) :
    ∀ j u, (plC d)[j]? = some u → w.cell? ((⟨B, 0, none⟩ : Addr).add j) = some u := by
  intro j u hj
  match j, hj with
  | 0, hj => simp [plC] at hj; subst hj; exact h0
  | 1, hj => simp [plC] at hj; subst hj; exact h1
  | 2, hj => simp [plC] at hj; subst hj; exact h2
  | 3, hj => simp [plC] at hj; subst hj; exact h3
  | 4, hj => simp [plC] at hj; subst hj; exact h4
  | 5, hj => simp [plC] at hj; subst hj; exact h5
  | 6, hj => simp [plC] at hj; subst hj; exact h6
  | j + 7, hj => simp [plC] at hj
set_option maxHeartbeats 4000000 in
theorem surv_law (o0 : Option Addr) (len0 cap0 : Nat) (z0 : List Int) (o1 : Option Addr) (len1 cap1 : Nat) (z1 : List Int) (o2 : Option Addr) (len2 cap2 : Nat) (z2 : List Int) (W : World) (w0 : IsRow .i64 W o0 len0 cap0 z0) (w1 : IsRow .i64 W o1 len1 cap1 z1) (w2 : IsRow .i64 W o2 len2 cap2 z2) :
    Calls Try.prog 6 #[.slice o0 len0 cap0, .slice o1 len1 cap1, .slice o2 len2 cap2] W fun e w' => e = .returned (.bool true) ∧ Below W.heap.size W w' := by
  obtain ⟨Lh, hLh, hmax0, hwf0, hc0⟩ := w0.view
  obtain ⟨Ll, hLl, hmax1, hwf1, hc1⟩ := w1.view
  obtain ⟨Lo, hLo, hmax2, hwf2, hc2⟩ := w2.view
  clear w0 w1 w2
  have m0 : (len0 : Int) ≤ 9223372036854775807 := by unfold maxLen at hmax0; omega
  have m1 : (len1 : Int) ≤ 9223372036854775807 := by unfold maxLen at hmax1; omega
  have m2 : (len2 : Int) ≤ 9223372036854775807 := by unfold maxLen at hmax2; omega
  clear hmax0 hmax1 hmax2
  by_cases s1 : (6 : Int) < len0
  · go_enter Try.func6, Try.ntmps6
    go_wp2_with (go_at_call 7; refine (Law39.awake_any _).mono ?_; rintro e w1 ⟨rfl, hb⟩)
    go_ret
    exact ⟨rfl, hb⟩
  by_cases s2 : (8 : Int) < len1
  · go_enter Try.func6, Try.ntmps6
    go_wp2_with (go_at_call 7; refine (Law39.awake_any _).mono ?_; rintro e w1 ⟨rfl, hb⟩)
    go_ret
    exact ⟨rfl, hb⟩
  by_cases s3 : (len2 : Int) < 2 * len1
  · go_enter Try.func6, Try.ntmps6
    go_wp2_with (go_at_call 7; refine (Law39.awake_any _).mono ?_; rintro e w1 ⟨rfl, hb⟩)
    go_ret
    exact ⟨rfl, hb⟩
  by_cases s4 : (len0 : Int) < 1
  · go_enter Try.func6, Try.ntmps6
    go_wp2_with (go_at_call 7; refine (Law39.awake_any _).mono ?_; rintro e w1 ⟨rfl, hb⟩)
    go_ret
    exact ⟨rfl, hb⟩
  have HC0 := Lib.hid hc0
  have HC1 := Lib.hid hc1
  have HC2 := Lib.hid hc2
  have HL0 := Lib.hid hLh
  have HL1 := Lib.hid hLl
  have HL2 := Lib.hid hLo
  have hwf0' := Lib.hid hwf0
  have hwf2' := Lib.hid hwf2
  clear hc0 hc1 hc2 hLh hLl hLo hwf0 hwf1 hwf2
  go_enter Try.func6, Try.ntmps6
  go_wp2
  go_loopw [7, 8] (fun v i wr => ∃ k : Nat, k ≤ len0 ∧ i = .int .i64 k ∧ Own 26 3 capC W.heap.size wr v ((Lh.take k).map hostC) ∧ Held W wr) (fun _ i _ => len0 - (intOf i).toNat)
  case atStart => exact ⟨0, Nat.zero_le _, rfl, Own.nil _, Held.refl _⟩
  case round =>
    obtain ⟨k, hk, rfl, hown, hh⟩ := hrel
    have HO := Lib.hid hown
    have hll : ((Lh.take k).map hostC).length ≤ 6 := by rw [List.length_map, List.length_take, HL0.out]; omega
    clear hown
    by_cases hlt : k < len0
    · obtain ⟨b, off, rfl, hb, hcc⟩ := HC0.out.resolve_left (by omega)
      have hkL : k < Lh.length := by rw [HL0.out]; exact hlt
      obtain ⟨n, hn⟩ : ∃ n, Lh[k] = n := ⟨_, rfl⟩
      have hcell : wr.cell? ⟨b, off + k, none⟩ = some (.int .i64 n) := by rw [← hn]; exact hh.cell (hcc k hkL)
      have hnb := bd_i64 (hwf0'.out n (by rw [← hn]; exact List.getElem_mem hkL))
      have HS : Hid ((Lh.take (k + 1)).map hostC = (Lh.take k).map hostC ++ [hostC n]) := hosts_snoc Lh k n (by rw [← hn]; exact List.getElem?_eq_getElem hkL)
      have hle := hh.le
      clear hn hcc hkL
      generalize (Lh.take k).map hostC = X at HO hll HS
      go_wp2_with (first | (go_at_call 8; refine (Mk.round_any _ _ (by omega) (by omega) (by decide) (by decide) _).mono ?_; rintro e w1 ⟨rfl, rfl⟩) | (at_builtin; refine Own.app (f := capC) _ rfl _ _ _ rfl _ 24 Try.underlying37 info_cap rfl (by decide) (fun _ => rfl) capC_one W.heap.size _ X (hostC n) ⟨wr.heap.size, 0, none⟩ 1 rfl (Own.held (W := W) HO.out ((Held.refl _).alloc _)) rfl (news3 (by simp [hostC]) (by simp [hostC]) (by simp [hostC])) (by omega) (by decide) (by simp; omega) ?_; intro g cap w3 hown1 hg1 hat1 hlt1))
      go_roundw
      case rel => exact ⟨k + 1, by omega, by go_num, by rw [HS.out]; exact hown1, held_grown (hh.alloc _) (Own.held (W := W) HO.out ((Held.refl _).alloc _)) hg1⟩
      case measure => simp [intOf]; omega
    · obtain rfl : k = len0 := by omega
      have HT : Hid (Lh.take k = Lh) := show _ = _ by rw [← HL0.out, List.take_length]
      have hown : Own 26 3 capC W.heap.size wr u7 ((Lh).map hostC) := by have := HO.out; rw [HT.out] at this; exact this
      have hall : ∀ (i : Nat) (c : Cap), (Lh.map hostC)[i]? = some c → c.up = true := by
        intro i c hc
        rw [List.getElem?_map] at hc
        cases hi : Lh[i]? with
        | none => rw [hi] at hc; cases hc
        | some x => rw [hi] at hc; injection hc with hc; subst hc; rfl
      have hHL : (Lh.map hostC).length = k := by rw [List.length_map, HL0.out]
      generalize Lh.map hostC = H at hown hall hHL
      obtain ⟨A7, cp7, rfl, hcp7, hcm7⟩ := hown.shape
      rw [hHL] at hown hcp7 ⊢
      obtain ⟨wA, rfl⟩ : ∃ wA : World, wA = wr := ⟨_, rfl⟩
      have hsl := (Own.reads (f := capC) (s := 3) (fun _ => rfl) hown).1
      have HSL := Lib.hid hsl
      have HHL := Lib.hid hHL
      have HALL := Lib.hid hall
      have HH := Lib.hid hh
      have hk0 := hh.le
      clear hown hsl hHL hall hh HO HT HL0 HC0 hwf0' hll
      go_wp2
      go_loopw [9, 10] (fun v i wr => ∃ j : Nat, j ≤ len1 ∧ i = .int .i64 j ∧ Own 48 7 plC wA.heap.size wr v (plsOf Ll Lo k j) ∧ Held wA wr) (fun _ i _ => len1 - (intOf i).toNat)
      case atStart => exact ⟨0, Nat.zero_le _, rfl, Own.nil _, Held.refl _⟩
      case round =>
        obtain ⟨j, hj, rfl, hown, hh⟩ := hrel
        have hpl : (plsOf Ll Lo k j).length ≤ 8 := by rw [plsOf_len]; omega
        have HS := Lib.hid (plsOf_succ Ll Lo k j)
        have HPn : Hid (plOf Ll Lo k j = ⟨ByteArray.empty, dem (Ll.getD j 0), Mk.round (Lo.getD (2 * j) 0) k, Mk.round (Lo.getD (2 * j + 1) 0) k⟩) := rfl
        by_cases hlt : j < len1
        · obtain ⟨b1, off1, rfl, hb1, hcc1⟩ := HC1.out.resolve_left (by omega)
          obtain ⟨b2, off2, rfl, hb2, hcc2⟩ := HC2.out.resolve_left (by omega)
          have hj1 : j < Ll.length := by rw [HL1.out]; exact hlt
          have hj2 : 2 * j < Lo.length := by rw [HL2.out]; omega
          have hj3 : 2 * j + 1 < Lo.length := by rw [HL2.out]; omega
          have hb1' : b1 < wA.heap.size := Nat.lt_of_lt_of_le hb1 hk0
          have hb2' : b2 < wA.heap.size := Nat.lt_of_lt_of_le hb2 hk0
          have q0 := (HH.out.step hh).cell (hcc1 j hj1)
          have q1 := (HH.out.step hh).cell (hcc2 (2 * j) hj2)
          have q2 := (HH.out.step hh).cell (hcc2 (2 * j + 1) hj3)
          have n1 := bd_i64 (hwf2'.out _ (List.getElem_mem hj2))
          have n2 := bd_i64 (hwf2'.out _ (List.getElem_mem hj3))
          have e0 : Ll.getD j 0 = Ll[j] := by simp [List.getD_eq_getElem?_getD, List.getElem?_eq_getElem hj1]
          have e1 : Lo.getD (2 * j) 0 = Lo[2 * j] := by simp [List.getD_eq_getElem?_getD, List.getElem?_eq_getElem hj2]
          have e2 : Lo.getD (2 * j + 1) 0 = Lo[2 * j + 1] := by simp [List.getD_eq_getElem?_getD, List.getElem?_eq_getElem hj3]
          rw [e0, e1, e2] at HPn
          clear e0 e1 e2 hcc1 hcc2
          generalize Ll[j] = x0 at q0 HPn
          generalize Lo[2 * j] = x1 at q1 n1 HPn
          generalize Lo[2 * j + 1] = x2 at q2 n2 HPn
          clear hj1 hj2 hj3
          generalize plsOf Ll Lo k j = PL at hown hpl HS
          generalize plOf Ll Lo k j = pn at HPn HS
          have i1 : (0 : Int) ≤ (j : Int) := by omega
          have i2 : (j : Int) < (len1 : Int) := by omega
          have i3 : (2 * (j : Int)) < (len2 : Int) := by omega
          have i4 : (2 * (j : Int) + 1) < (len2 : Int) := by omega
          have i5 : IntKind.i64.wrap (2 * (j : Int)) = 2 * (j : Int) := IntWalk.i64_in _ (by omega)
          have i6 : IntKind.i64.wrap (2 * (j : Int) + 1) = 2 * (j : Int) + 1 := IntWalk.i64_in _ (by omega)
          have i7 : (2 * (j : Int)).toNat = 2 * j := by omega
          have i8 : (2 * (j : Int) + 1).toNat = 2 * j + 1 := by omega
          have i9 : (0 : Int) ≤ 2 * (j : Int) := by omega
          have i10 : (0 : Int) ≤ 2 * (j : Int) + 1 := by omega
          have T0 : Hid (T2 wA u9 PL wr) := ⟨hh, hown⟩
          clear hown hh
          go_wp2
          go_region_held3 (fun w' => w'.cell? ⟨b1, off1 + j, none⟩ = some (.int .i64 x0) ∧ w'.cell? ⟨b2, off2 + 2 * j, none⟩ = some (.int .i64 x1) ∧ w'.cell? ⟨b2, off2 + (2 * j + 1), none⟩ = some (.int .i64 x2) ∧ T2 wA u9 PL w')
            (first | exact ⟨q0, q1, q2, T0.out.1.drew, Own.held T0.out.2 (Held.refl _).drew⟩ | exact ‹S2 _ _ _ _ _ _ _ _ _ _ _ _› | exact S2.held (by assumption) ((Held.refl _).alloc _))
            (first | (go_at_call 11; refine (demand_any _ _).mono ?_; rintro e w5 ⟨rfl, h5⟩; have s5 := S2.held (by assumption) h5) | (go_at_call 8; refine (Mk.round_any _ _ (by omega) (by omega) (by omega) (by omega) _).mono ?_; rintro e w1 ⟨rfl, rfl⟩) | (refine Own.step_app (f := plC) _ (by rfl) _ _ _ (by rfl) _ 64 Try.underlying38 info_pl (by rfl) (by decide) (fun _ => rfl) plC_one wA.heap.size u9 PL ⟨ByteArray.empty, dem x0, Mk.round x1 k, Mk.round x2 k⟩ _ _ (by rfl) (S2.own (by assumption)) (by rfl) (news7 (by simp; rfl) (by simp) (by simp) (by simp) (by simp) (by simp) (by simp)) (by omega) (by decide) (S2.le (by assumption)) ?_; intro g6 cap6 w6 hown6 hkeep6 hg6 hat6 hlt6; have s6 := S2.app hb1' hb2' (by assumption) hkeep6 hg6))
          all_goals
            go_wp2
            go_roundw
            case rel => exact ⟨j + 1, by omega, by go_num, by rw [HS.out, HPn.out]; exact hown6, s6.2.2.2.1⟩
            case measure => simp [intOf]; omega
        · obtain rfl : j = len1 := by omega
          obtain ⟨wB, rfl⟩ : ∃ wB : World, wB = wr := ⟨_, rfl⟩
          generalize plsOf Ll Lo k j = PL at hown hpl HS
          obtain ⟨A9, cp9, rfl, hcp9, hcm9⟩ := hown.shape
          have hPs := ps_of_sl (Own.reads (f := plC) (s := 7) (fun _ => rfl) hown).1
          have hPL := hPs.1
          obtain ⟨np, hnp⟩ : ∃ n, PL.length = n := ⟨_, rfl⟩
          rw [hnp] at hPs hpl ⊢
          have HPs := Lib.hid hPs
          have HNP := Lib.hid hnp
          have HCs := Lib.hid (Sl.held HSL.out hh)
          have HB := Lib.hid (HH.out.step hh)
          clear hPs hPL hnp hown HS HPn hh HC1 HC2 HL1 HL2 hwf2' hcp9 hcm9
          obtain ⟨sv, hsv⟩ : ∃ x, survives H PL = x := ⟨_, rfl⟩
          have HSV := Lib.hid hsv
          go_wp2_with fail
          refine (survives_any _ _ _ H _ _ _ PL _ HCs.out HPs.out (by omega) (by omega)).mono ?_
          rintro e w3 ⟨rfl, h3⟩
          rw [hsv]
          have HB3 := Lib.hid (HB.out.step h3)
          have HC3 := Lib.hid (HCs.out.held h3)
          have HP3 := Lib.hid (HPs.out.held h3)
          clear hsv h3
          cases sv with
          | false =>
            go_wp2_with (go_at_call 7; refine (Law39.awake_any _).mono ?_; rintro e w4 ⟨rfl, h4⟩)
            go_ret
            exact ⟨rfl, HB3.out.step h4⟩
          | true =>
            obtain ⟨b7, o7, cm7, cc7, cu7, rfl, _⟩ := Cs.at3 HC3.out (Held.refl _) (show 0 < k by omega)
            obtain ⟨wC, rfl⟩ : ∃ wC : World, wC = w3 := ⟨_, rfl⟩
            go_wp2
            go_loopw [11] (fun i wr => ∃ h : Nat, h ≤ k ∧ i = .int .i64 h ∧ Held wC wr) (fun i _ => k - (intOf i).toNat)
            case atStart => exact ⟨0, Nat.zero_le _, rfl, Held.refl _⟩
            case round =>
              obtain ⟨h, hhk, rfl, hh⟩ := hrel
              by_cases hlt : h < k
              · obtain ⟨wE, rfl⟩ : ∃ wE : World, wE = wr := ⟨_, rfl⟩
                have SF := Lib.hid (Sl.flat (f := capC) (s := 3) (fun _ => rfl) (by decide) ((HC3.out.held hh).held ((Held.refl wE).alloc (.cells #[] 26))))
                have HB1 : Hid ((([] : List Cap).length + k) * 24 ≤ 140737488355328) := show _ ≤ _ by rw [List.length_nil]; omega
                go_wp2_with (at_builtin; refine Own.apps (f := capC) _ rfl _ _ _ rfl _ 24 Try.underlying37 info_cap rfl (by decide) (fun _ => rfl) capC_one wE ((Held.refl _).alloc _) (.slice (some ⟨wE.heap.size, 0, none⟩) 0 0) [] H _ _ _ rfl (Own.empty (Nat.le_refl _)) rfl HHL.out SF.out HB1.out (by decide) ?_; intro v5 w5 hown5 h5 hg5; rw [List.nil_append] at hown5; obtain ⟨g5, cp5, rfl, hgb, hgl⟩ := World.ownsRow.form hown5 (by have := HHL.out; omega); have hfz := World.ownsRow.frozenAt hown5 (h * 3 + 2); rw [HHL.out] at hown5 ⊢; have HRD := Lib.hid (Own.reads (f := capC) (s := 3) (fun _ => rfl) hown5); obtain ⟨bx, ox, cm, cc, cu, ebx, _, hch, r0, r1, r2⟩ := Cs.at3 HRD.out.1 (Held.refl _) hlt; have HCH := Lib.hid hch; clear hch; obtain ⟨rfl, rfl⟩ : g5 = bx ∧ 0 = ox := (by injection ebx with ebx; injection ebx with e1 e2; exact ⟨e1, e2⟩); simp only [Nat.zero_add] at r0 r1 r2; clear ebx)
                have hcp5 : k ≤ cp5 := HRD.out.2.2
                have HOWN := Lib.hid hown5
                clear hown5
                have hD : Sl 3 capC (w5.setCell ⟨g5, h * 3 + 2, none⟩ (.bool false)) (some ⟨g5, 0, none⟩) k (down H h) := by
                  have hc := HCH.out
                  obtain ⟨hl, hg⟩ := List.getElem?_eq_some_iff.1 hc
                  have := Own.stored (f := capC) (s := 3) (fun _ => rfl) HOWN.out h hl 2 (.bool false) ⟨cm, cc, false⟩ (by rw [hg]; rfl) (by decide)
                  unfold down
                  rw [hc]; exact this
                have hwD : Held wE (w5.setCell ⟨g5, h * 3 + 2, none⟩ (.bool false)) := h5.set (by simpa using hgb) _
                go_wp2
                generalize w5.setCell ⟨g5, h * 3 + 2, none⟩ (.bool false) = wD at hD hwD ⊢
                have HD := Lib.hid hD
                have HWD := Lib.hid hwD
                have HPD := Lib.hid (HP3.out.held (hh.step hwD))
                have HBD := Lib.hid ((HB3.out.step hh).step hwD)
                have HhD := Lib.hid (hh.step hwD)
                have HDL : Hid ((down H h).length = k) := show _ = _ by rw [down_len, HHL.out]
                clear hD hwD hfz r0 r1 r2 hgb hgl hg5 h5 HOWN hh HB1 SF
                go_loop [13] (fun i => ∃ i' : Nat, i' ≤ np ∧ i = .int .i64 i') (fun i => np - (intOf i).toNat)
                case atStart => exact ⟨0, Nat.zero_le _, rfl⟩
                case round =>
                  obtain ⟨i, hi, rfl⟩ := hrel
                  by_cases hlt2 : i < np
                  · obtain ⟨b, off, nm, rr, ll, c, g, x, y, hA9, hn, c0, c1, c2, c3, c4, c5, c6⟩ := HPD.out.at_ (Held.refl _) hlt2
                    subst hA9
                    obtain ⟨a', b', ex, ey, hab, m1', c1', m2', c2', ha1, hb1⟩ := survives_ok HSV.out hn
                    simp only at ex ey
                    subst ex ey
                    have hak : a' < k := by rw [← HHL.out]; exact (List.getElem?_eq_some_iff.1 ha1).1
                    have hbk : b' < k := by rw [← HHL.out]; exact (List.getElem?_eq_some_iff.1 hb1).1
                    by_cases eah : a' = h
                    · subst eah
                      have hda := down_at ha1
                      have hdb : (down H a')[b']? = some ⟨m2', c2', true⟩ := by rw [down_ne (by omega)]; exact hb1
                      obtain ⟨bx, ox, cmx, ccx, cux, ebx, _, hcx, r0, r1, r2⟩ := Cs.at3 HD.out (Held.refl _) hak
                      obtain ⟨by', oy, cmy, ccy, cuy, eby, _, hcy, r0', r1', r2'⟩ := Cs.at3 HD.out (Held.refl _) hbk
                      injection ebx with ebx; injection ebx with e1 e2; subst e1 e2
                      injection eby with eby; injection eby with e1 e2; subst e1 e2
                      rw [hda] at hcx; injection hcx with hcx; injection hcx with e1 e2 e3; subst e1 e2 e3
                      rw [hdb] at hcy; injection hcy with hcy; injection hcy with e1 e2 e3; subst e1 e2 e3
                      simp only [Nat.zero_add] at r2 r2'
                      clear hda hdb ha1 hb1 hn r0 r1 r0' r1' hab
                      go_wp2
                      go_round
                      case rel => exact ⟨i + 1, by omega, by go_num⟩
                      case measure => simp [intOf]; omega
                    · have hda : (down H h)[a']? = some ⟨m1', c1', true⟩ := by rw [down_ne (by omega)]; exact ha1
                      obtain ⟨bx, ox, cmx, ccx, cux, ebx, _, hcx, r0, r1, r2⟩ := Cs.at3 HD.out (Held.refl _) hak
                      injection ebx with ebx; injection ebx with e1 e2; subst e1 e2
                      rw [hda] at hcx; injection hcx with hcx; injection hcx with e1 e2 e3; subst e1 e2 e3
                      simp only [Nat.zero_add] at r2
                      clear hda ha1 hb1 hn r0 r1 hab
                      go_wp2
                      go_round
                      case rel => exact ⟨i + 1, by omega, by go_num⟩
                      case measure => simp [intOf]; omega
                  · obtain rfl : i = np := by omega
                    go_wp2
                    go_loopw [14] (fun i wr => ∃ kk : Nat, kk ≤ k ∧ i = .int .i64 kk ∧ Held wD wr) (fun i _ => k - (intOf i).toNat)
                    case atStart => exact ⟨0, Nat.zero_le _, rfl, Held.refl _⟩
                    case round =>
                      obtain ⟨kk, hkk, rfl, hh⟩ := hrel
                      by_cases hlt3 : kk < k
                      · by_cases ekh : kk = h
                        · have ekh' : ((kk : Int) != (h : Int)) = false := by simp [ekh]
                          clear ekh
                          go_wp2
                          go_quiet (fail)
                          go_wp2
                          go_roundw
                          case rel => exact ⟨kk + 1, by omega, by go_num, hh.drewN _⟩
                          case measure => simp [intOf]; omega
                        · have ekh' : ((kk : Int) != (h : Int)) = true := by simp; omega
                          obtain ⟨bx, ox, m, c, up, ebx, _, hcx, q0, q1, q2⟩ := Cs.at3 HD.out hh hlt3
                          injection ebx with ebx; injection ebx with e1 e2; subst e1 e2
                          rw [down_ne ekh] at hcx
                          have HF := Lib.hid (survives_fit HSV.out hcx)
                          simp only [Nat.zero_add] at q0 q1 q2
                          have hol := on_len PL kk
                          have hol' : ((on PL kk).length : Int) ≤ 100 := by rw [HNP.out] at hol; omega
                          have HP2 := Lib.hid (HPD.out.held hh)
                          clear hcx hol ekh
                          have i1 : (0 : Int) ≤ (kk : Int) := by omega
                          have i2 : (kk : Int) < (k : Int) := by omega
                          obtain ⟨wF, rfl⟩ : ∃ wF : World, wF = wr := ⟨_, rfl⟩
                          go_wp2
                          go_region_held3 (fun w' => w'.cell? ⟨g5, kk * 3, none⟩ = some (.int .i64 m) ∧ w'.cell? ⟨g5, kk * 3 + 1, none⟩ = some (.int .i64 c) ∧ w'.cell? ⟨g5, kk * 3 + 2, none⟩ = some (.bool up) ∧ Held wF w')
                            ((repeat' refine And.intro ?_ ?_) <;> first | exact q0 | exact q1 | exact q2 | exact (Held.refl _).drew | exact Held.cell (by assumption) q0 | exact Held.cell (by assumption) q1 | exact Held.cell (by assumption) q2 | exact (by assumption))
                            (first | (go_at_call 15; refine (on_any _ _ _ PL _ _ (HP2.out.held (Held.refl _).drew) (by omega)).mono ?_; rintro e w6 ⟨v, rfl, hown, h6⟩; obtain ⟨A6, cp6, rfl, hcp6⟩ := own_slice hown; obtain ⟨hds, hn, _⟩ := ds_of_own hown; have HDS := Lib.hid hds; clear hown hds hn; have h7 : Held wF w6 := (Held.drew (Held.refl _)).step h6) | (go_at_call 10; refine (fits_any _ _ _ _ _ _ (on PL kk) _ HDS.out (by omega) (by omega)).mono ?_; rintro e w8 ⟨rfl, h8⟩; rw [HF.out]; have h9 : Held wF w8 := h7.step h8))
                          go_wp2
                          go_roundw
                          case rel => exact ⟨kk + 1, by omega, by go_num, hh.step h9⟩
                          case measure => simp [intOf]; omega
                      · obtain rfl : kk = k := by omega
                        have HP2 := Lib.hid (HPD.out.held hh)
                        have HD2 := Lib.hid (HD.out.held hh)
                        obtain ⟨wF, rfl⟩ : ∃ wF : World, wF = wr := ⟨_, rfl⟩
                        have hol := on_len PL h
                        have hol' : ((on PL h).length : Int) ≤ 100 := by rw [HNP.out] at hol; omega
                        clear hol
                        by_cases hon : 0 < ((on PL h).length : Int)
                        · have HSD := Lib.hid (survives_down (H := H) (L := PL) (h := h) (by omega))
                          go_wp2_with (first | (go_at_call 15; refine (on_any _ _ _ PL _ _ HP2.out (by omega)).mono ?_; rintro e w6 ⟨v, rfl, hown, h6⟩; obtain ⟨A6, cp6, rfl, hcp6⟩ := own_slice hown) | (go_at_call 23; refine (survives_any _ _ _ (down H h) _ _ _ PL _ (HD2.out.held h6) (HP2.out.held h6) (by omega) (by omega)).mono ?_; rintro e w7 ⟨rfl, h7⟩; rw [HSD.out]))
                          go_roundw
                          case rel => exact ⟨h + 1, by omega, by go_num, ((HhD.out.step hh).step h6).step h7⟩
                          case measure => simp [intOf]; omega
                        · go_wp2_with (first | (go_at_call 15; refine (on_any _ _ _ PL _ _ HP2.out (by omega)).mono ?_; rintro e w6 ⟨v, rfl, hown, h6⟩; obtain ⟨A6, cp6, rfl, hcp6⟩ := own_slice hown))
                          go_roundw
                          case rel => exact ⟨h + 1, by omega, by go_num, (HhD.out.step hh).step h6⟩
                          case measure => simp [intOf]; omega
              · obtain rfl : h = k := by omega
                go_wp2_with (go_at_call 7; refine (Law39.awake_any _).mono ?_; rintro e w4 ⟨rfl, h4⟩)
                go_ret
                exact ⟨rfl, (HB3.out.step hh).step h4⟩
end Law39
end Go.Proofs.Ytmpbmckigejagaa
