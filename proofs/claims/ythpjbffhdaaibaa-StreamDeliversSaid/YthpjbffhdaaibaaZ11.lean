/-
  Contracts: vmfleetplan.Segment: a valid segment from a position on (chapter 24).
  Contracts: vmfleetplan.Segments: valid segments that follow each other (chapter 24).
  Contracts of slices.Delete at []api.Segment that the call itself made (printed by mkslc.py).
  Contracts: Acked of the program (chapter 24).
  Contracts: the search among early segments (chapter 24).
-/
import Derived.Test.YthpjbffhdaaibaaZ3
import Derived.Test.YthpjbffhdaaibaaZ10
import Derived.Test.YthpjbffhdaaibaaZ7
import Derived.Test.YthpjbffhdaaibaaProg
import Derived.WalkSpells
import Derived.WalkLawsBesides
import Derived.Deep.RegionHeld3
import Derived.Outline
import Derived.Lib.SliceRun
set_option linter.unusedVariables false
set_option linter.unusedSimpArgs false
set_option maxRecDepth 100000
namespace Go.Proofs.Ythpjbffhdaaibaa
open Go.RowKit Go.BigFrame Go.Sort Go.Lib
namespace St
open Enc Uv Lg Lgc Strs
theorem ordTo_app {L M : List Ent} : ∀ {k : Nat}, k < L.length → ordTo (L ++ M) k = ordTo L k
  | 0, _ => rfl
  | k + 1, h => by
    rw [ordTo, ordTo, ordTo_app (k := k) (by omega), List.getElem?_append_left (by omega), List.getElem?_append_left h]
theorem ord_snoc {L : List Ent} {x : Ent} (h : ord L = true) (hl : ∀ y, L.getLast? = some y → adj y x = false) : ord (L ++ [x]) = true := by
  unfold ord
  rw [List.length_append, List.length_singleton, Nat.add_sub_cancel]
  cases hL : L.length with
  | zero => rfl
  | succ k =>
    have hlt : k < L.length := by omega
    have h2 : ordTo (L ++ [x]) k = true := by
      rw [ordTo_app hlt]
      unfold ord at h
      rw [hL] at h
      exact h
    rw [ordTo, h2, List.getElem?_append_left hlt, List.getElem?_append_right (by omega), hL, Nat.sub_self, List.getElem?_eq_getElem hlt]
    have h3 := hl L[k] (by rw [List.getLast?_eq_getElem?, hL]; exact List.getElem?_eq_getElem hlt)
    simp [h3]
/-- A segment in the making. -/
structure Pl (at_ kn : Nat) (es : List Ent) (p : Nat) : Prop where
  ok : ∀ x ∈ es, EntOK x ∧ okX x = true ∧ at_ ≤ x.t ∧ x.t ≤ kn
  ord : ord es = true
  last : ∀ x, es.getLast? = some x → x.t ≤ p ∧ (x.t = p → x.k ≠ 1)
  p1 : at_ ≤ p
  p2 : p ≤ kn
theorem Pl.start {at_ kn : Nat} (h : at_ ≤ kn) : Pl at_ kn [] at_ := ⟨fun x hx => by simp at hx, rfl, fun x hx => by simp at hx, Nat.le_refl _, h⟩
theorem Pl.step {at_ kn p p' : Nat} {es : List Ent} (h : Pl at_ kn es p) {x : Ent} (hx : EntOK x) (hk : okX x = true) (ht : x.t = p) (h1 : p ≤ p') (h2 : p' ≤ kn) (h3 : x.k = 1 → p < p') : Pl at_ kn (es ++ [x]) p' := by
  refine ⟨fun y hy => ?_, ord_snoc h.ord fun y hy => ?_, fun y hy => ?_, Nat.le_trans h.p1 h1, h2⟩
  · rcases List.mem_append.1 hy with hy | hy
    · exact h.ok y hy
    · rw [List.mem_singleton] at hy
      subst hy
      exact ⟨hx, hk, by rw [ht]; exact h.p1, by rw [ht]; exact h.p2⟩
  · obtain ⟨q1, q2⟩ := h.last y hy
    unfold adj
    by_cases e : y.t = p
    · have := q2 e
      simp [ht, e, this]
    · have e2 : ¬ p = y.t := fun q => e q.symm
      simp [ht, e2]; omega
  · rw [List.getLast?_concat] at hy
    injection hy with hy
    subst hy
    exact ⟨by omega, fun e q => by have := h3 q; omega⟩
theorem Pl.fin {at_ kn p : Nat} {es : List Ent} (h : Pl at_ kn es p) (hl : es.length ≤ 10) (hk : kn < 18446744073709551616) : segOk ⟨at_, kn, es⟩ = true ∧ SegIn ⟨at_, kn, es⟩ := by
  have h1 := h.p1
  have h2 := h.p2
  refine ⟨?_, ⟨by simp only; omega, hk, fun e he => (h.ok e he).1⟩⟩
  unfold segOk
  refine decide_eq_true ?_
  have hle := encF_len (L := es) (fun x hx => ⟨(h.ok x hx).1, (h.ok x hx).2.1⟩) at_
  have hpl := put_len es.length (by omega)
  have he : encode es at_ = (put es.length ++ encF at_ es, 0) := by
    unfold encode
    rw [if_neg (by omega), if_neg, if_neg, if_neg]
    · rw [List.length_append]; omega
    · rw [h.ord]
      unfold Enc.early
      split
      · rename_i x hx
        have := (h.ok x (List.mem_of_getElem? hx)).2.2.1
        simp; omega
      · simp
    · have : es.all okX = true := by rw [List.all_eq_true]; exact fun x hx => (h.ok x hx).2.1
      rw [this]; simp
  rw [logOf_mk (g := ⟨at_, kn, es⟩) (by simp only; omega) ?_ he]
  unfold late
  rw [List.any_eq_false]
  intro x hx
  have := (h.ok x hx).2.2.2
  simp; omega
/-- A call hands back a valid segment of its own. -/
def PlanTo (at_ : Nat) (w : World) (e : Ending) (w' : World) : Prop := ∃ kn es A n cap, e = .returned (.agg #[.int .u64 at_, .int .u64 (kn : Nat), .slice A n cap]) ∧ segOk ⟨at_, kn, es⟩ = true ∧ SegIn ⟨at_, kn, es⟩ ∧ kn ≤ at_ + 6 ∧ (∀ B, Sg B w' ⟨at_, kn, A, n, cap, es⟩) ∧ Held w w'
theorem ev_store {w : World} {b : Nat} {v0 v1 v2 : Value} (h : w.heap[b]? = some (.cells #[v0, v1, v2] 103 (0, 0))) : (loadVar 103 ⟨b, 0, none⟩).run Try.prog w = .ok (.agg #[v0, v1, v2]) w := by
  have c0 := Bx.cell h 0 rfl
  have c1 := Bx.cell h 1 rfl
  have c2 := Bx.cell h 2 rfl
  simp [go_sem, c0, c1, c2]
theorem tdiv7_bd {x : Int} (h1 : -9223372036854775808 ≤ x) (h2 : x ≤ 9223372036854775807) : -9223372036854775808 ≤ x.tdiv 7 ∧ x.tdiv 7 ≤ 9223372036854775807 := by
  by_cases h : 0 ≤ x
  · rw [Int.tdiv_eq_ediv_of_nonneg h]; omega
  · obtain ⟨y, rfl⟩ : ∃ y, x = -y := ⟨-x, by omega⟩
    rw [Int.neg_tdiv, Int.tdiv_eq_ediv_of_nonneg (by omega)]; omega
theorem clock_ok {n : Int} : Ev.ok 1 n [] = true := by simp [Ev.ok, Ev.okE]
set_option maxHeartbeats 4000000 in
theorem segment_any (n : Int) (at_ : Nat) (hn : -9223372036854775808 ≤ n) (hn' : n ≤ 9223372036854775807) (hat : (at_ : Int) ≤ 2199023255552) (w : World) : Calls Try.prog 28 #[.int .i64 n, .int .u64 (at_ : Int)] w (PlanTo at_ w) := by
  have HR7 := Lib.hid fun w => Mk.round_any n 7 hn hn' (by omega) (by omega) w
  have hb7 := Mk.round_bd n 7 (by omega)
  generalize Mk.round n 7 = r7 at HR7 hb7
  have htd := tdiv7_bd hn hn'
  have HR4 := Lib.hid fun w => Mk.round_any (n.tdiv 7) 4 htd.1 htd.2 (by omega) (by omega) w
  have hb4 := Mk.round_bd (n.tdiv 7) 4 (by omega)
  generalize Mk.round (n.tdiv 7) 4 = r4 at HR4 hb4
  have HR1 := Lib.hid fun w => Mk.round_any n 1000 hn hn' (by omega) (by omega) w
  have hb1 := Mk.round_bd n 1000 (by omega)
  generalize Mk.round n 1000 = r1 at HR1 hb1
  obtain ⟨j7, rfl⟩ := Int.eq_ofNat_of_zero_le hb7.1
  obtain ⟨k, rfl⟩ := Int.eq_ofNat_of_zero_le hb4.1
  obtain ⟨j1, rfl⟩ := Int.eq_ofNat_of_zero_le hb1.1
  obtain ⟨_, hj7⟩ := hb7
  obtain ⟨_, hk4⟩ := hb4
  obtain ⟨_, hj1⟩ := hb1
  obtain ⟨kn, hkn⟩ : ∃ kn, at_ + j7 = kn := ⟨_, rfl⟩
  have hkn2 : (at_ : Int) + j7 = (kn : Int) := by omega
  have hkl : kn ≤ at_ + 6 := by omega
  have hkg : at_ ≤ kn := by omega
  have hkn0 : (kn : Int) ≤ 18446744073709551615 := by omega
  have HAT : Is (at_ + j7) kn := ⟨hkn⟩
  clear hkn
  have M0 := Lib.hid (((Mem.start w).alloc' (b := w.heap.size) rfl #[.int .u64 0, .int .u64 0, .slice none 0 0] 32).alloc' (b := w.heap.size + 1) (by simp) #[.int .u64 at_, .int .u64 kn, .slice none 0 0] 32 |>.nilRow (e := 106) (s := 4) (f := entC))
  go_enter Try.func28, Try.ntmps28
  go_wp2_with fail
  refine (HR7.out _).mono ?_
  rintro e w1 ⟨rfl, rfl⟩
  go_wp2_with fail
  refine (HR4.out _).mono ?_
  rintro e w1 ⟨rfl, rfl⟩
  go_wp2
  go_loopw [7, 8] (fun a i wr => ∃ (q p : Nat) (A : Option Addr) (cap : Nat) (es : List Ent), a = .int .u64 (p : Int) ∧ i = .int .i64 (q : Int) ∧ q ≤ k ∧ es.length = q ∧ Pl at_ kn es p ∧ Mem w wr [.box w.heap.size #[.int .u64 0, .int .u64 0, .slice none 0 0] 32, .box (w.heap.size + 1) #[.int .u64 at_, .int .u64 kn, .slice A q cap] 32, .row 106 4 entC w.heap.size (.slice A q cap) es]) (fun _ i _ => k - (RowKit.intOf i).toNat)
  case atStart => exact ⟨0, at_, none, 0, [], rfl, rfl, Nat.zero_le _, rfl, Pl.start hkg, M0.out⟩
  case round =>
    obtain ⟨q, p, A, cap, es, rfl, rfl, hq, hes, hpl, hM⟩ := hrel
    have HEQ : Is es.length q := ⟨hes⟩
    have HPL := Lib.hid hpl
    have M := Lib.hid hM
    have hp1 := hpl.p1
    have hp2 := hpl.p2
    have hcap : q ≤ cap := by
      obtain ⟨A', cap', e, h1, _⟩ := (hM.row 2 rfl).shape
      injection e with _ e1 e2
      omega
    clear hes hpl hM M0
    by_cases hlt : q < k
    · have z2 : (q : Int) < k := by omega
      have HEV := Lib.hid fun w => Evg.event_any (wrap64 (n + q)) w
      go_wp2_with fail
      refine (HEV.out _).mono ?_
      rintro e w2 ⟨ek, en, ed, rfl, hek, hen, hed, hok, h2⟩
      have MK := Lib.hid (M.out.keep h2)
      have M2 := Lib.hid ((M.out.keep h2).alloc #[.int .i64 ek, .int .u32 en, .string ed] 103)
      have HOK : Hid (okX (⟨p, ek, en, ed⟩ : Ent) = true) := hok
      have HIN : Hid (EntOK (⟨p, ek, en, ed⟩ : Ent)) := ⟨by simp only; omega, by simp only; omega, by simp only; omega, hen.1, hen.2, by simp only; omega⟩
      have hek1 : ¬ ek = 1 := by omega
      have HK1 := Lib.hid hek1
      clear HEV M h2 hok hek hen hed hek1
      by_cases hp : p < kn
      · have hpi : (p : Int) < kn := by omega
        have hpp : (p : Int) + 1 ≤ 18446744073709551615 := by omega
        by_cases hpar : (q : Int) % 2 = 1
        · have hpb : ((q : Int) % 2 == 1) = true := by simp [hpar]
          have hpb2 : ((q : Int).tmod 2 == 1) = true := by rw [Int.tmod_eq_emod_of_nonneg (by omega)]; exact hpb
          have MC := Lib.hid (MK.out.alloc #[.int .i64 1, .int .u32 (j1 : Int), .string ⟨#[]⟩] 103)
          have HOK1 : Hid (okX (⟨p, 1, j1, ⟨#[]⟩⟩ : Ent) = true) := clock_ok
          have HIN1 : Hid (EntOK (⟨p, 1, j1, ⟨#[]⟩⟩ : Ent)) := ⟨by simp only; omega, by simp only; omega, by simp only; omega, by simp only; omega, by simp only; omega, by simp [ByteArray.size]⟩
          obtain ⟨⟨a0, a1, a2⟩, ⟨af0, af1, af2⟩, hla⟩ := M2.out.box3 1 rfl
          obtain ⟨⟨b0, b1, b2⟩, ⟨bf0, bf1, bf2⟩, hlb⟩ := M2.out.box3 3 rfl
          have hn13 : ¬ w.heap.size + 1 = w2.heap.size := M2.out.ne 1 3 rfl rfl (by decide)
          have hn31 : ¬ w2.heap.size = w.heap.size + 1 := fun e => hn13 e.symm
          clear HOK HIN HK1
          go_wp2_with fail
          refine (HR1.out _).mono ?_
          rintro e w3 ⟨rfl, rfl⟩
          obtain ⟨⟨a0, a1, a2⟩, ⟨af0, af1, af2⟩, hla⟩ := MC.out.box3 1 rfl
          obtain ⟨⟨b0, b1, b2⟩, _, hlb⟩ := MC.out.box3 3 rfl
          have hn13 : ¬ w.heap.size + 1 = w2.heap.size := MC.out.ne 1 3 rfl rfl (by decide)
          have hn31 : ¬ w2.heap.size = w.heap.size + 1 := fun e => hn13 e.symm
          have M5 := Lib.hid (MC.out.skip (.cells #[.int .u64 (p : Int), .int .i64 1, .int .u32 j1, .string (⟨#[]⟩ : ByteArray)] 106))
          go_wp2_with (at_builtin; go_loud (refine Mem.wp_app M5.out 2 rfl rfl _ _ _ rfl _ 40 Try.underlying30 info_ent rfl (by decide) entC_len entC_one (⟨p, 1, j1, (⟨#[]⟩ : ByteArray)⟩ : Ent) ⟨w2.heap.size + 1, 0, none⟩ 1 rfl rfl (cells_new _ (by simp) _ _) q HEQ.out (by omega) (by decide) ?_); intro g6 cp6 w6 M6'; have M6 := Lib.hid M6'; obtain ⟨⟨c0, c1, c2⟩, ⟨cf0, cf1, cf2⟩, hlc⟩ := M6'.box3 1 rfl; clear M6')
          have M7 := Lib.hid (M6.out.put 1 rfl 2 (.slice (some ⟨g6, 0, none⟩) (q + 1) cp6))
          go_roundw
          case rel => exact ⟨q + 1, p + 1, some ⟨g6, 0, none⟩, cp6, es ++ [(⟨p, 1, j1, (⟨#[]⟩ : ByteArray)⟩ : Ent)], by go_num, by go_num, by omega, by rw [List.length_append, HEQ.out]; rfl, HPL.out.step HIN1.out HOK1.out rfl (by omega) (by omega) (fun e => by omega), M7.out.take 3⟩
          case measure => (simp [RowKit.intOf]) <;> omega
        · have hpb : ((q : Int) % 2 == 1) = false := by simp [hpar]
          have hpb2 : ((q : Int).tmod 2 == 1) = false := by rw [Int.tmod_eq_emod_of_nonneg (by omega)]; exact hpb
          obtain ⟨⟨a0, a1, a2⟩, ⟨af0, af1, af2⟩, hla⟩ := M2.out.box3 1 rfl
          obtain ⟨⟨b0, b1, b2⟩, _, hlb⟩ := M2.out.box3 3 rfl
          have hn13 : ¬ w.heap.size + 1 = w2.heap.size := M2.out.ne 1 3 rfl rfl (by decide)
          have hn31 : ¬ w2.heap.size = w.heap.size + 1 := fun e => hn13 e.symm
          have M5 := Lib.hid (M2.out.skip (.cells #[.int .u64 (p : Int), .int .i64 ek, .int .u32 en, .string ed] 106))
          go_wp2_with (at_builtin; go_loud (refine Mem.wp_app M5.out 2 rfl rfl _ _ _ rfl _ 40 Try.underlying30 info_ent rfl (by decide) entC_len entC_one (⟨p, ek, en, ed⟩ : Ent) ⟨w2.heap.size + 1, 0, none⟩ 1 rfl rfl (cells_new _ (by simp) _ _) q HEQ.out (by omega) (by decide) ?_); intro g6 cp6 w6 M6'; have M6 := Lib.hid M6'; obtain ⟨⟨c0, c1, c2⟩, ⟨cf0, cf1, cf2⟩, hlc⟩ := M6'.box3 1 rfl; clear M6')
          have M7 := Lib.hid (M6.out.put 1 rfl 2 (.slice (some ⟨g6, 0, none⟩) (q + 1) cp6))
          go_roundw
          case rel => exact ⟨q + 1, p + 1, some ⟨g6, 0, none⟩, cp6, es ++ [(⟨p, ek, en, ed⟩ : Ent)], by go_num, by go_num, by omega, by rw [List.length_append, HEQ.out]; rfl, HPL.out.step HIN.out HOK.out rfl (by omega) (by omega) (fun e => absurd e HK1.out), M7.out.take 3⟩
          case measure => (simp [RowKit.intOf]) <;> omega
      · have hpi : ¬ (p : Int) < kn := by omega
        have hpd : decide ((p : Int) < kn) = false := decide_eq_false hpi
        by_cases hpar : (q : Int) % 2 = 1
        · have hpb : ((q : Int) % 2 == 1) = true := by simp [hpar]
          have hpb2 : ((q : Int).tmod 2 == 1) = true := by rw [Int.tmod_eq_emod_of_nonneg (by omega)]; exact hpb
          obtain ⟨⟨a0, a1, a2⟩, ⟨af0, af1, af2⟩, hla⟩ := M2.out.box3 1 rfl
          obtain ⟨⟨b0, b1, b2⟩, _, hlb⟩ := M2.out.box3 3 rfl
          have hn13 : ¬ w.heap.size + 1 = w2.heap.size := M2.out.ne 1 3 rfl rfl (by decide)
          have hn31 : ¬ w2.heap.size = w.heap.size + 1 := fun e => hn13 e.symm
          have M5 := Lib.hid (M2.out.skip (.cells #[.int .u64 (p : Int), .int .i64 ek, .int .u32 en, .string ed] 106))
          go_wp2_with (at_builtin; go_loud (refine Mem.wp_app M5.out 2 rfl rfl _ _ _ rfl _ 40 Try.underlying30 info_ent rfl (by decide) entC_len entC_one (⟨p, ek, en, ed⟩ : Ent) ⟨w2.heap.size + 1, 0, none⟩ 1 rfl rfl (cells_new _ (by simp) _ _) q HEQ.out (by omega) (by decide) ?_); intro g6 cp6 w6 M6'; have M6 := Lib.hid M6'; obtain ⟨⟨c0, c1, c2⟩, ⟨cf0, cf1, cf2⟩, hlc⟩ := M6'.box3 1 rfl; clear M6')
          have M7 := Lib.hid (M6.out.put 1 rfl 2 (.slice (some ⟨g6, 0, none⟩) (q + 1) cp6))
          go_roundw
          case rel => exact ⟨q + 1, p, some ⟨g6, 0, none⟩, cp6, es ++ [(⟨p, ek, en, ed⟩ : Ent)], by go_num, by go_num, by omega, by rw [List.length_append, HEQ.out]; rfl, HPL.out.step HIN.out HOK.out rfl (by omega) (by omega) (fun e => absurd e HK1.out), M7.out.take 3⟩
          case measure => (simp [RowKit.intOf]) <;> omega
        · have hpb : ((q : Int) % 2 == 1) = false := by simp [hpar]
          have hpb2 : ((q : Int).tmod 2 == 1) = false := by rw [Int.tmod_eq_emod_of_nonneg (by omega)]; exact hpb
          obtain ⟨⟨a0, a1, a2⟩, ⟨af0, af1, af2⟩, hla⟩ := M2.out.box3 1 rfl
          obtain ⟨⟨b0, b1, b2⟩, _, hlb⟩ := M2.out.box3 3 rfl
          have hn13 : ¬ w.heap.size + 1 = w2.heap.size := M2.out.ne 1 3 rfl rfl (by decide)
          have hn31 : ¬ w2.heap.size = w.heap.size + 1 := fun e => hn13 e.symm
          have M5 := Lib.hid (M2.out.skip (.cells #[.int .u64 (p : Int), .int .i64 ek, .int .u32 en, .string ed] 106))
          go_wp2_with (at_builtin; go_loud (refine Mem.wp_app M5.out 2 rfl rfl _ _ _ rfl _ 40 Try.underlying30 info_ent rfl (by decide) entC_len entC_one (⟨p, ek, en, ed⟩ : Ent) ⟨w2.heap.size + 1, 0, none⟩ 1 rfl rfl (cells_new _ (by simp) _ _) q HEQ.out (by omega) (by decide) ?_); intro g6 cp6 w6 M6'; have M6 := Lib.hid M6'; obtain ⟨⟨c0, c1, c2⟩, ⟨cf0, cf1, cf2⟩, hlc⟩ := M6'.box3 1 rfl; clear M6')
          have M7 := Lib.hid (M6.out.put 1 rfl 2 (.slice (some ⟨g6, 0, none⟩) (q + 1) cp6))
          go_roundw
          case rel => exact ⟨q + 1, p, some ⟨g6, 0, none⟩, cp6, es ++ [(⟨p, ek, en, ed⟩ : Ent)], by go_num, by go_num, by omega, by rw [List.length_append, HEQ.out]; rfl, HPL.out.step HIN.out HOK.out rfl (by omega) (by omega) (fun e => absurd e HK1.out), M7.out.take 3⟩
          case measure => (simp [RowKit.intOf]) <;> omega
    · obtain rfl : q = k := by omega
      have z2 : ¬ (q : Int) < q := by omega
      obtain ⟨⟨a0, a1, a2⟩, ⟨af0, af1, af2⟩, hla⟩ := M.out.box3 0 rfl
      obtain ⟨⟨b0, b1, b2⟩, _, hlb⟩ := M.out.box3 1 rfl
      go_wp2
      have MF := M.out.put3 0 rfl (.int .u64 at_) (.int .u64 kn) (.slice A q cap)
      refine bodyPost_ret (Bx.res_c Try.results28 rfl (seg_load (MF.blk 0 rfl))) rfl ?_
      have hrow := MF.row 2 rfl
      obtain ⟨f1, f2⟩ := HPL.out.fin (by rw [HEQ.out]; omega) (by omega)
      exact ⟨kn, es, A, q, cap, rfl, f1, f2, hkl, fun B => ⟨(Own.reads entC_len hrow).1, Ty.own hrow, by simp only; omega, f2.f, f2.kn, f2.ok⟩, MF.held⟩
end St
end Go.Proofs.Ythpjbffhdaaibaa

set_option linter.unusedVariables false
set_option linter.unusedSimpArgs false
set_option maxRecDepth 100000
namespace Go.Proofs.Ythpjbffhdaaibaa
open Go.RowKit Go.BigFrame Go.Sort Go.Lib
namespace St
open Enc Uv Lg Lgc Strs
def inN (z : Int) : List Value := [.int .i64 z]
theorem inN_len (x : Int) : (inN x).length = 1 := rfl
theorem nums_in {o : Option Addr} {len cap : Nat} {z : List Int} {W : World} (h : Rw.IsRow .i64 W o len cap z) : ∃ L, Sl 1 inN W o len L ∧ (len : Int) ≤ 9223372036854775807 ∧ ∀ x ∈ L, -9223372036854775808 ≤ x ∧ x ≤ 9223372036854775807 := by
  obtain ⟨L, hL, hmax, hwf, hcell⟩ := h.view
  refine ⟨L, ⟨hL, hcell.imp id ?_⟩, by unfold maxLen at hmax; omega, ?_⟩
  · rintro ⟨b, off, e, hb, hc⟩
    refine ⟨b, off, e, hb, fun k hk j v hv => ?_⟩
    rcases j with _ | j
    · simp only [inN, List.getElem?_cons_zero, Option.some.injEq] at hv
      subst hv
      have := hc k hk
      simpa using this
    · simp [inN] at hv
  · intro x hx
    exact Rw.bd_i64 (hwf x hx)
theorem in_at {w a : World} {A : Option Addr} {n : Nat} {L : List Int} (h : Sl 1 inN w A n L) (ha : Held w a) {k : Nat} (hk : k < n) :
    ∃ b off x, A = some ⟨b, off, none⟩ ∧ b < w.heap.size ∧ L[k]? = some x ∧ a.cell? ⟨b, off + k, none⟩ = some (.int .i64 x) := by
  obtain ⟨b, off, x, e, hb, hx, hc⟩ := Sl.at_ h ha hk
  have := hc 0 _ rfl
  rw [Nat.add_zero, Nat.mul_one] at this
  exact ⟨b, off, x, e, hb, hx, this⟩
theorem pos_app {a : Nat} {G : List Seg} (g : Seg) {i : Nat} (h : i ≤ G.length) : pos a (G ++ [g]) i = pos a G i := by
  unfold pos
  rw [List.take_append_of_le_length h]
theorem Ch.nil (a : Nat) : Ch a [] := ⟨fun i h => by simp at h, fun i h => by simp at h, fun i h => by simp at h⟩
theorem Ch.snoc {a : Nat} {G : List Seg} (h : Ch a G) {g : Seg} (h1 : g.f = pos a G G.length) (h2 : segOk g = true) (h3 : SegIn g) : Ch a (G ++ [g]) := by
  have key : ∀ i (hi : i < (G ++ [g]).length), (∃ h : i < G.length, (G ++ [g])[i] = G[i]) ∨ (i = G.length ∧ (G ++ [g])[i] = g) := fun i hi => by
    by_cases e : i < G.length
    · exact .inl ⟨e, List.getElem_append_left e⟩
    · have : i = G.length := by rw [List.length_append, List.length_singleton] at hi; omega
      subst this
      exact .inr ⟨rfl, by simp⟩
  refine ⟨fun i hi => ?_, fun i hi => ?_, fun i hi => ?_⟩
  · rcases key i hi with ⟨e, q⟩ | ⟨e, q⟩
    · rw [q, pos_app g (Nat.le_of_lt e)]; exact h.f i e
    · rw [q, e, pos_app g (Nat.le_refl _)]; exact h1
  · rcases key i hi with ⟨e, q⟩ | ⟨e, q⟩
    · rw [q]; exact h.ok i e
    · rw [q]; exact h2
  · rcases key i hi with ⟨e, q⟩ | ⟨e, q⟩
    · rw [q]; exact h.inn i e
    · rw [q]; exact h3
theorem pos_last {a : Nat} {G : List Seg} {g : Seg} {n : Nat} (h : G.length = n) : pos a (G ++ [g]) (n + 1) = g.kn := by
  rw [pos_succ a _ (by rw [List.length_append, List.length_singleton]; omega)]
  subst h
  simp
/-- A call hands back valid segments that follow each other. -/
def SegsTo (B a n : Nat) (w : World) (e : Ending) (w' : World) : Prop := ∃ A cap R, e = .returned (.slice A n cap) ∧ R.length = n ∧ Ch a (gs R) ∧ Own 32 3 segC w.heap.size w' (.slice A n cap) R ∧ Sgs B w' R ∧ Held w w'
set_option maxHeartbeats 2000000 in
theorem segments_any (A : Option Addr) (n cap : Nat) (L : List Int) (a : Nat) (B : Nat) (w : World) (hB : B ≤ w.heap.size) (h : Sl 1 inN w A n L) (hL : ∀ x ∈ L, -9223372036854775808 ≤ x ∧ x ≤ 9223372036854775807) (hn : n ≤ 20) (ha : (a : Int) ≤ 1099511627776) :
    Calls Try.prog 9 #[.slice A n cap, .int .u64 (a : Int)] w (SegsTo B a n w) := by
  have HS := Lib.hid h
  have HL := Lib.hid hL
  have HBB := Lib.hid hB
  clear h hL hB
  have M0 := Lib.hid ((Mem.start w).nilRow (e := 32) (s := 3) (f := segC))
  go_enter Try.func9, Try.ntmps9
  go_wp2
  go_loopw [1, 5, 6] (fun p v i wr => ∃ (q x : Nat) (R : List SR), p = .int .u64 (x : Int) ∧ i = .int .i64 (q : Int) ∧ q ≤ n ∧ R.length = q ∧ Ch a (gs R) ∧ x = pos a (gs R) q ∧ x ≤ a + 6 * q ∧ Sgs B wr R ∧ Mem w wr [.row 32 3 segC w.heap.size v R]) (fun _ _ i _ => n - (RowKit.intOf i).toNat)
  case atStart => exact ⟨0, a, [], rfl, rfl, Nat.zero_le _, rfl, Ch.nil a, rfl, by omega, Sgs.nil _ _, M0.out⟩
  case round =>
    obtain ⟨q, x, R, rfl, rfl, hq, hRq, hch, hx, hxl, hs, hM⟩ := hrel
    obtain ⟨A2, cap2, rfl, hcap2, _⟩ := (hM.row 0 rfl).shape
    have HRQ : Is R.length q := ⟨hRq⟩
    have HCH := Lib.hid hch
    have HX : Is x (pos a (gs R) q) := ⟨hx⟩
    have SS := Lib.hid hs
    have M := Lib.hid hM
    rw [hRq] at M hcap2 ⊢
    clear hch hx hs hM hRq M0
    by_cases hlt : q < n
    · obtain ⟨b, off, z, rfl, hb, hz, hc⟩ := in_at HS.out M.out.held (k := q) hlt
      have hzb := HL.out z (List.mem_of_getElem? hz)
      have z2 : (q : Int) < n := by omega
      have z3 : (0 : Int) ≤ q := by omega
      have HG := Lib.hid fun w => segment_any z x hzb.1 hzb.2 (by omega) w
      have hne : ¬ b = wr.heap.size := by have := M.out.held.le; omega
      clear hz hb hzb
      go_wp2_with fail
      refine (HG.out _).mono ?_
      rintro e w2 ⟨kn, es, A3, n3, cap3, rfl, hok, hin, hkl, hsg, h2⟩
      have M2 := Lib.hid ((M.out.keep h2).alloc #[.int .u64 x, .int .u64 kn, .slice A3 n3 cap3] 32)
      have M3 := Lib.hid (M2.out.skip (.cells #[.int .u64 x, .int .u64 kn, .slice A3 n3 cap3] 32))
      have hh : Held w2 _ := ((Held.refl w2).alloc (.cells #[.int .u64 x, .int .u64 kn, .slice A3 n3 cap3] 32)).alloc (.cells #[.int .u64 x, .int .u64 kn, .slice A3 n3 cap3] 32)
      have S3 := Lib.hid ((SS.out.held h2).held hh)
      have G3 := Lib.hid ((hsg B).held hh)
      obtain ⟨⟨c0, c1, c2⟩, _, hl⟩ := M2.out.box3 1 rfl
      have HOK := Lib.hid hok
      have HIN := Lib.hid hin
      clear hh hsg h2 hok hin hc
      go_wp2_with (at_builtin; refine Mem.wp_appC M3.out 0 rfl rfl _ _ _ rfl _ 40 Try.underlying25 info_seg rfl (by decide) segC_len segC_one ⟨x, kn, A3, n3, cap3, es⟩ ⟨w2.heap.size + 1, 0, none⟩ 1 rfl rfl (cells_new _ (by simp) _ _) q HRQ.out (by omega) (by decide) ?_; intro g4 cp4 w4 M4' k4; have M4 := Lib.hid M4'; have K4 := Lib.hid k4; obtain ⟨⟨e0, e1, e2⟩, _, hle⟩ := M4'.box3 1 rfl; clear M4' k4)
      go_roundw
      case rel =>
        have kk := K4.out 106 B (by decide) HBB.out
        have hgl : (gs R).length = q := by rw [gs_len]; exact HRQ.out
        refine ⟨q + 1, kn, R ++ [(⟨x, kn, A3, n3, cap3, es⟩ : SR)], rfl, by go_num, by omega, by rw [List.length_append, HRQ.out]; rfl, ?_, ?_, by omega, (S3.out.chg kk).snoc (G3.out.chg kk), M4.out.take 1⟩
        · unfold gs at hgl ⊢
          rw [List.map_append]
          have := HCH.out
          unfold gs at this
          exact this.snoc (by rw [hgl]; exact HX.out) HOK.out HIN.out
        · unfold gs at hgl ⊢
          rw [List.map_append]
          exact (pos_last (g := ⟨x, kn, es⟩) hgl).symm
      case measure => (simp [RowKit.intOf]) <;> omega
    · obtain rfl : q = n := by omega
      have z2 : ¬ (q : Int) < q := by omega
      go_wp2
      go_ret
      exact ⟨A2, cap2, R, rfl, HRQ.out, HCH.out, M.out.row 0 rfl, SS.out, M.out.held⟩
end St
end Go.Proofs.Ythpjbffhdaaibaa

set_option linter.unusedVariables false
set_option maxRecDepth 100000
namespace Go.Proofs.Ythpjbffhdaaibaa
open Go.RowKit
namespace SlcSg
theorem info : (Try.prog.info? 32).map (fun i => (i.zero, i.size, i.bytes)) = some (some (.agg #[.int .u64 0, .int .u64 0, .slice none 0 0]), 3, 40) := by kernel_rfl
theorem zero (w : World) : (zeroValue 32).run Try.prog w = .ok (.agg #[.int .u64 0, .int .u64 0, .slice none 0 0]) w := by kernel_rfl
theorem zcells (n : Nat) : ∀ u ∈ (Builtin.zeroCells (Value.cells (.agg #[.int .u64 0, .int .u64 0, .slice none 0 0])) n).toList, u.oneCell' = true := by
  intro u hu
  simp only [Builtin.zeroCells, Array.toList_map, List.mem_map] at hu
  obtain ⟨i, _, rfl⟩ := hu
  have hs : (Value.cells (.agg #[.int .u64 0, .int .u64 0, .slice none 0 0])).size = 3 := rfl
  rw [hs]
  have hm : i % 3 < 3 := Nat.mod_lt _ (by decide)
  generalize i % 3 = k at hm
  match k, hm with
  | 0, _ => rfl
  | 1, _ => rfl
  | 2, _ => rfl
  | k + 3, h => omega
section
variable {α : Type} {f : α → List Value}
theorem delete_any (hf : ∀ x, (f x).length = 3) (hf1 : ∀ x, ∀ u ∈ f x, u.oneCell' = true) (base : Nat) (v : Value) (L : List α) (i j : Nat) (w : World) (h : Own 32 3 f base w v L) (hij : i < j) (hj : j ≤ L.length) (hmax : (L.length : Int) ≤ 1099511627776) :
    Calls Try.prog 48 #[v, .int .i64 i, .int .i64 j] w (Sg.Got 32 3 f base v (L.take i ++ L.drop j) w) := by
  obtain ⟨i0, hi0, hz0, hz1, hz2⟩ := info_parts info
  obtain ⟨A, cap, rfl⟩ : ∃ A cap, v = .slice A L.length cap := by obtain ⟨A, cap, hv, _⟩ := h.shape; exact ⟨A, cap, hv⟩
  obtain ⟨g, C, rfl, hb, hrow, hlen, htake, _, hcap, hm⟩ := Sg.own_row hf h (by omega)
  obtain ⟨n, hn⟩ : ∃ n, L.length = n := ⟨_, rfl⟩
  rw [hn] at h htake hcap hj hmax ⊢
  have hfl : (L.flatMap f).length = n * 3 := by rw [flat_len hf, hn]
  have hcs : n * 3 ≤ C.length := by rw [hlen]; exact Nat.mul_le_mul_right _ hcap
  -- what is moved
  obtain ⟨news, hnews⟩ : ∃ news, news = (L.flatMap f).drop (j * 3) := ⟨_, rfl⟩
  have hnl : news.length = (n - j) * 3 := by rw [hnews, List.length_drop, hfl]; omega
  have hn1 : ∀ u ∈ news, u.oneCell' = true := by
    intro u hu
    rw [hnews] at hu
    have := List.mem_of_mem_drop hu
    rw [List.mem_flatMap] at this
    obtain ⟨x, _, hx⟩ := this
    exact hf1 x u hx
  have hnC : news = (C.drop (j * 3)).take ((n - j) * 3) := by
    rw [hnews, ← htake, List.drop_take]; congr 1; omega
  obtain ⟨A2, hA2, hnw⟩ : ∃ A2 : Addr, (if cap = j then (⟨g, 0, none⟩ : Addr) else ⟨g, j * 3, none⟩) = A2 ∧ ∀ k u, news[k]? = some u → w.drew.cell? (A2.add k) = some u := by
    by_cases hcj : cap = j
    · refine ⟨_, if_pos hcj, fun k u hk => ?_⟩
      have : news.length = 0 := by rw [hnl]; omega
      rw [List.eq_nil_of_length_eq_zero this] at hk; cases hk
    · refine ⟨_, if_neg hcj, fun k u hk => ?_⟩
      rw [hnC] at hk
      exact Sg.news_at hrow.drew _ _ k u hk
  obtain ⟨w1, hr1, hrow1⟩ := Sg.app_room (P := Try.prog) (ty := 25) Try.underlying25 hi0 hz1 hrow.drew i cap A2 (n - j) (cap - j) news hnl hnw hn1 (by omega) (by rw [hnl, ← Nat.add_mul]; exact Nat.le_trans (Nat.mul_le_mul_right _ (by omega)) hcs)
  have hl1 : (Sg.lay C (i * 3) news).length = C.length := Sg.lay_len (by rw [hnl, ← Nat.add_mul]; exact Nat.le_trans (Nat.mul_le_mul_right _ (by omega)) hcs)
  have hzs : (Value.cells (.agg #[.int .u64 0, .int .u64 0, .slice none 0 0])).size = 3 := rfl
  obtain ⟨w2, hr2, hrow2⟩ := Sg.clear_row (P := Try.prog) (t := 25) (ty := 0) Try.underlying25 zero (zcells 1) hrow1 ((i + (n - j)) * 3) (n - (i + (n - j))) (cap - (i + (n - j))) (by omega) (zcells _) (by rw [hl1, hzs, ← Nat.add_mul]; exact Nat.le_trans (Nat.mul_le_mul_right _ (by omega)) hcs)
  have hfin : Hid (Sg.Got 32 3 f base (.slice (some ⟨g, 0, none⟩) n cap) (L.take i ++ L.drop j) w (.returned (.slice (some ⟨g, 0, none⟩) (i + (n - j)) cap)) w2) := by
    refine Sg.Got.mk (Sg.row_own hf hrow2 hb ?_ ?_ (by omega) hm ?_) hrow2.grown (.inl rfl)
    · rw [Sg.lay_len (by simp only [Builtin.zeroCells, Array.toList_map, List.length_map]; rw [hl1]; simp [hzs]; first | (rw [← Nat.add_mul]; exact Nat.le_trans (Nat.mul_le_mul_right _ (by omega)) hcs) | omega), hl1, hlen]
    · rw [List.length_append, List.length_take, List.length_drop]; omega
    · rw [Sg.lay_low (by rw [hl1]; exact Nat.le_trans (Nat.mul_le_mul_right _ (by omega)) hcs) (Nat.le_refl _)]
      have e1 : (i + (n - j)) * 3 = i * 3 + news.length := by rw [hnl, Nat.add_mul]
      rw [e1, Sg.lay_take (Nat.le_trans (Nat.mul_le_mul_right _ (by omega)) hcs), List.flatMap_append, Sg.flat_take hf L i (by omega), Sg.flat_drop hf L j (by omega), hnews, ← htake, List.take_take, Nat.min_eq_left (Nat.mul_le_mul_right _ (by omega))]
  have hsl : ∀ w', (Instr.slice 25 (.slice (some ⟨g, 0, none⟩) n cap) (some (.int .i64 j)) none none).run Try.prog w' = .ok (.slice (some A2) (n - j) (cap - j)) w' := by
    intro w'
    have := Sg.slice_from (P := Try.prog) Try.underlying25 hi0 hz1 g 0 n cap j hj hcap w'
    rw [Nat.zero_add, hA2] at this
    exact this
  clear hA2
  have b1 : (i : Int) ≤ j := by omega
  have b2 : (j : Int) ≤ n := by omega
  have b3 : (n : Int) ≤ cap := by omega
  have b4 : (cap : Int) ≤ 9223372036854775807 := by unfold maxLen at hm; omega
  have b9 : (i : Int) ≤ cap := by omega
  have b10 : (0 : Int) ≤ i := by omega
  have b5 : ((i : Int) == j) = false := by simp; omega
  have b6 : ¬ (i : Int) = j := by omega
  have b7 : ¬ cap = i + (n - j) := by omega
  have b8 : ((i + (n - j) : Nat) : Int) ≤ n := by omega
  clear hrow hrow1 hrow2 hlen htake hcap hm hfl hcs hnl hn1 hnC hnw hl1 hzs h hi0 hz0 hz1 hz2 hnews
  go_enter Try.func48, Try.ntmps48
  go_wp2
  go_region_held3 (fun _ => True) (trivial) (refine Sg.step_append (by rfl) _ _ _ _ 25 (by rfl) (by rfl) (by rfl) (by rfl) hr1 ?_)
  go_wp2
  go_ret
  exact hfin.out
end
end SlcSg
end Go.Proofs.Ythpjbffhdaaibaa

set_option linter.unusedVariables false
set_option linter.unusedSimpArgs false
set_option maxRecDepth 100000
namespace Go.Proofs.Ythpjbffhdaaibaa
open Go.RowKit Go.BigFrame Go.Sort Go.Lib
namespace St
open Enc Uv Lg Lgc Strs
theorem gs_drop (R : List SR) (k : Nat) : gs (R.drop k) = (gs R).drop k := List.map_drop
theorem gs_take (R : List SR) (k : Nat) : gs (R.take k) = (gs R).take k := List.map_take
theorem gs_at {R : List SR} {k : Nat} {x : SR} (h : R[k]? = some x) : (gs R)[k]? = some x.g := by unfold gs; rw [List.getElem?_map, h]; rfl
theorem ackAt_eq {b t kn n k : Nat} {R : List SR} {x : SR} (h : R[k]? = some x) (hk : n - b - 1 = k) : ackAt ⟨b, t, kn, gs R⟩ n = some x.kn := by
  unfold ackAt; simp only; rw [hk, gs_at h]; rfl
theorem opened_lt (l : List UInt8) (m : UInt8) : (opened l m).1 < 18446744073709551616 := by
  have h : (opens l).1 < 18446744073709551616 := by
    have h1 := numR_lt l false
    unfold opens
    split
    · exact Nat.zero_lt_succ _
    · split
      · exact Nat.zero_lt_succ _
      · exact h1
  unfold opened opened1
  split
  · exact Nat.zero_lt_succ _
  · split
    · exact Nat.zero_lt_succ _
    · split
      · exact h
      · exact Nat.zero_lt_succ _
set_option maxHeartbeats 4000000 in
theorem acked_any (b t kn : Nat) (A : Option Addr) (n cap : Nat) (L : List SR) (s : ByteArray) (B : Nat) (w : World) (hB : B ≤ w.heap.size) (h : Sl 3 segC w A n L) (hg : Sgs B w L) (hn : n ≤ 1000000) (hs : (s.size : Int) ≤ 1000000000000) :
    Calls Try.prog 17 #[.agg #[.int .u64 b, .int .u64 t, .int .u64 kn, .slice A n cap], .string s] w (SndX B (acked ⟨b, t, kn, gs L⟩ s.data.toList).1 (.bool (acked ⟨b, t, kn, gs L⟩ s.data.toList).2) w) := by
  have HS := Lib.hid h
  have HG := Lib.hid hg
  have HL : Is L.length n := ⟨h.1⟩
  have HBB := Lib.hid hB
  have hn2 : (n : Int) ≤ 1000000 := by omega
  have hql : (gs L).length = n := by rw [gs_len]; exact h.1
  have hol := opened_len s.data.toList 65
  have HO := fun w => openBody_any s 65 hs w
  have HP : Is (acked ⟨b, t, kn, gs L⟩ s.data.toList) (acked1 ⟨b, t, kn, gs L⟩ (opened s.data.toList 65)) := ⟨rfl⟩
  obtain ⟨p, hp⟩ : ∃ p, acked ⟨b, t, kn, gs L⟩ s.data.toList = p := ⟨_, rfl⟩
  obtain ⟨o, ho⟩ : ∃ o, opened s.data.toList 65 = o := ⟨_, rfl⟩
  have hon := opened_lt s.data.toList 65
  rw [ho] at HO HP hol hon
  obtain ⟨on, orest, ook⟩ := o
  have HO1 := Lib.hid HO
  rw [hp] at HP ⊢
  rw [len_eq] at hol
  simp only at hol hon
  have HP1 : Is p (if (!ook || !sending ⟨b, t, kn, gs L⟩) = true then (⟨b, t, kn, gs L⟩, false) else if (!uvB orest || decide (uvN orest ≠ orest.length)) = true then (⟨b, t, kn, gs L⟩, false) else if (decide (on ≤ b) || decide (n < on - b)) = true then (⟨b, t, kn, gs L⟩, false) else if ackAt ⟨b, t, kn, gs L⟩ on ≠ some (uvX orest) then (⟨b, t, kn, gs L⟩, false) else (⟨on, t, uvX orest, (gs L).drop (on - b)⟩, true)) := ⟨by rw [HP.out, ← hql]; rfl⟩
  have hsq : sending ⟨b, t, kn, gs L⟩ = true → n ≤ 8 := fun e => by
    unfold sending at e
    simp only [Bool.and_eq_true, decide_eq_true_eq] at e
    rw [← hql]; exact e.1.2
  have HSQ := Lib.hid hsq
  obtain ⟨sv, hsv⟩ : ∃ sv, sending ⟨b, t, kn, gs L⟩ = sv := ⟨_, rfl⟩
  have M0 : Hid (Mem w ((w.alloc (.cells #[.int .u64 b, .int .u64 t, .int .u64 kn, .slice A n cap] 38)).alloc (.cells #[.int .u64 0, .int .u64 0, .int .u64 0, .slice none 0 0] 38)) [.box w.heap.size #[.int .u64 b, .int .u64 t, .int .u64 kn, .slice A n cap] 38, .box (w.heap.size + 1) #[.int .u64 0, .int .u64 0, .int .u64 0, .slice none 0 0] 38]) :=
    ((Mem.start w).alloc' (b := w.heap.size) rfl _ _).alloc' (b := w.heap.size + 1) (by simp) _ _
  obtain ⟨w1, hw1⟩ : ∃ w1, ((w.alloc (.cells #[.int .u64 b, .int .u64 t, .int .u64 kn, .slice A n cap] 38)).alloc (.cells #[.int .u64 0, .int .u64 0, .int .u64 0, .slice none 0 0] 38)) = w1 := ⟨_, rfl⟩
  have HW1 := Lib.hid hw1
  rw [hw1] at M0
  have HCP := Lib.hid (copySender_any b t kn A n cap L B w1 (Nat.le_trans hB M0.out.held.le) (h.held M0.out.held) (hg.held M0.out.held) hn)
  have HSN := Lib.hid fun (w' : World) (k : Held w w') => sending_any b t kn A n cap L B w' (h.held k) (hg.held k) hn
  rw [hsv] at HP1 HSQ
  simp only [hsv] at HSN
  clear hp ho HO HP hsv hw1 h hg hB hql hsq
  obtain ⟨⟨c0, c1, c2, c3⟩, _, hl0⟩ := M0.out.box4 0 rfl
  go_enter Try.func17, Try.ntmps17
  go_wp2_with fail
  rw [HW1.out]
  refine HCP.out.mono ?_
  rintro e w2 ⟨A2, n2, cap2, rfl, ⟨R, hR, oR, sR⟩, h2⟩
  dsimp only at hR ⊢
  have hRl : R.length = n := by have := congrArg List.length hR; rw [gs_len, gs_len, HL.out] at this; exact this
  obtain rfl : n2 = n := by rw [← hRl]; exact (Own.reads segC_len oR).2.1
  have HRL : Is R.length n2 := ⟨hRl⟩
  have HR := Lib.hid hR
  have M2 := Lib.hid ((M0.out.own h2 oR).alloc #[.int .u64 b, .int .u64 t, .int .u64 kn, .slice A2 n2 cap2] 38)
  have S2 := Lib.hid (sR.held ((Held.refl w2).alloc (.cells #[.int .u64 b, .int .u64 t, .int .u64 kn, .slice A2 n2 cap2] 38)))
  clear hR oR sR h2 HCP HW1 M0 c0 c1 c2 c3 hl0 hRl
  go_wp2_with fail
  refine (HO1.out _).mono ?_
  rintro e w3 ⟨rs, rfl, hrs, h3⟩
  dsimp only at hrs ⊢
  have HRS : Is rs.data.toList orest := ⟨hrs⟩
  have hrl : rs.size = orest.length := by rw [← hrs, len_eq]
  have M3 := Lib.hid (M2.out.keep h3)
  have S3 := Lib.hid (S2.out.held h3)
  clear h3 HO1 M2 S2 hrs
  obtain ⟨⟨a0, a1, a2, a3⟩, _, hla⟩ := M3.out.box4 0 rfl
  cases ook
  · have HP2 : Is p (⟨b, t, kn, gs L⟩, false) := ⟨HP1.out⟩
    clear HP1
    obtain ⟨⟨c0, c1, c2, c3⟩, ⟨f0, f1, f2, f3⟩, hl0⟩ := M3.out.box4 1 rfl
    obtain ⟨⟨d0, d1, d2, d3⟩, _, hl1⟩ := M3.out.box4 3 rfl
    have hn02 : ¬ w.heap.size + 1 = w2.heap.size := M3.out.ne 1 3 rfl rfl (by decide)
    have hn20 : ¬ w2.heap.size = w.heap.size + 1 := fun e => hn02 e.symm
    go_wp2
    have MF := M3.out.put4 1 rfl (.int .u64 b) (.int .u64 t) (.int .u64 kn) (.slice A2 n2 cap2)
    refine bodyPost_ret (Bx.res_ct Try.results17 rfl (snd_load (MF.blk 1 rfl))) rfl ?_
    exact SndX.mk (by rw [HP2.out, HR.out]) (by rw [HP2.out]; rfl) (MF.row 2 rfl) (S3.out.put4 (Blk.of M3.out 1 rfl (by decide) HBB.out) _ _ _ _) MF.held
  have HP3 : Is p (if sv = false then (⟨b, t, kn, gs L⟩, false) else if (!uvB orest || decide (uvN orest ≠ orest.length)) = true then (⟨b, t, kn, gs L⟩, false) else if (decide (on ≤ b) || decide (n2 < on - b)) = true then (⟨b, t, kn, gs L⟩, false) else if ackAt ⟨b, t, kn, gs L⟩ on ≠ some (uvX orest) then (⟨b, t, kn, gs L⟩, false) else (⟨on, t, uvX orest, (gs L).drop (on - b)⟩, true)) := ⟨by rw [HP1.out]; cases sv <;> simp⟩
  clear HP1
  go_wp2_with fail
  refine (HSN.out _ M3.out.held).mono ?_
  rintro e w4 ⟨rfl, h4⟩
  have M4 := Lib.hid (M3.out.keep h4)
  have S4 := Lib.hid (S3.out.held h4)
  clear h4 HSN M3 S3 a0 a1 a2 a3 hla
  obtain ⟨⟨a0, a1, a2, a3⟩, _, hla⟩ := M4.out.box4 0 rfl
  cases sv
  · have HP2 : Is p (⟨b, t, kn, gs L⟩, false) := ⟨HP3.out⟩
    clear HP3
    obtain ⟨⟨c0, c1, c2, c3⟩, ⟨f0, f1, f2, f3⟩, hl0⟩ := M4.out.box4 1 rfl
    obtain ⟨⟨d0, d1, d2, d3⟩, _, hl1⟩ := M4.out.box4 3 rfl
    have hn02 : ¬ w.heap.size + 1 = w2.heap.size := M4.out.ne 1 3 rfl rfl (by decide)
    have hn20 : ¬ w2.heap.size = w.heap.size + 1 := fun e => hn02 e.symm
    go_wp2
    have MF := M4.out.put4 1 rfl (.int .u64 b) (.int .u64 t) (.int .u64 kn) (.slice A2 n2 cap2)
    refine bodyPost_ret (Bx.res_ct Try.results17 rfl (snd_load (MF.blk 1 rfl))) rfl ?_
    exact SndX.mk (by rw [HP2.out, HR.out]) (by rw [HP2.out]; rfl) (MF.row 2 rfl) (S4.out.put4 (Blk.of M4.out 1 rfl (by decide) HBB.out) _ _ _ _) MF.held
  have hn8 := HSQ.out rfl
  have HU := Lib.hid fun w => uv_any rs (by omega) w
  rw [HRS.out] at HU
  have hX := uvX_lt orest
  have hN := uvN_le orest
  have HP4 : Is p (if (!uvB orest || decide (uvN orest ≠ orest.length)) = true then (⟨b, t, kn, gs L⟩, false) else if (decide (on ≤ b) || decide (n2 < on - b)) = true then (⟨b, t, kn, gs L⟩, false) else if ackAt ⟨b, t, kn, gs L⟩ on ≠ some (uvX orest) then (⟨b, t, kn, gs L⟩, false) else (⟨on, t, uvX orest, (gs L).drop (on - b)⟩, true)) := ⟨HP3.out⟩
  clear HP3 HRS
  generalize uvX orest = X at HU HP4 hX
  generalize uvB orest = Y at HU HP4
  generalize uvN orest = N at HU HP4 hN
  go_wp2_with fail
  refine (HU.out _).mono ?_
  rintro e w5 ⟨rfl, rfl⟩
  clear HU
  by_cases t1 : (!Y || decide (N ≠ orest.length)) = true
  · have HP2 : Is p (⟨b, t, kn, gs L⟩, false) := ⟨by rw [HP4.out, if_pos t1]⟩
    clear HP4
    cases Y
    · clear t1
      obtain ⟨⟨c0, c1, c2, c3⟩, ⟨f0, f1, f2, f3⟩, hl0⟩ := M4.out.box4 1 rfl
      obtain ⟨⟨d0, d1, d2, d3⟩, _, hl1⟩ := M4.out.box4 3 rfl
      have hn02 : ¬ w.heap.size + 1 = w2.heap.size := M4.out.ne 1 3 rfl rfl (by decide)
      have hn20 : ¬ w2.heap.size = w.heap.size + 1 := fun e => hn02 e.symm
      go_wp2
      have MF := M4.out.put4 1 rfl (.int .u64 b) (.int .u64 t) (.int .u64 kn) (.slice A2 n2 cap2)
      refine bodyPost_ret (Bx.res_ct Try.results17 rfl (snd_load (MF.blk 1 rfl))) rfl ?_
      exact SndX.mk (by rw [HP2.out, HR.out]) (by rw [HP2.out]; rfl) (MF.row 2 rfl) (S4.out.put4 (Blk.of M4.out 1 rfl (by decide) HBB.out) _ _ _ _) MF.held
    · have t2 : ((N : Int) == orest.length) = false := by rw [beq_eq_false_iff_ne]; simp at t1; omega
      have t3 : (N == orest.length) = false := by rw [beq_eq_false_iff_ne]; simp at t1; exact t1
      have t4 : ¬ N = orest.length := by simp at t1; exact t1
      clear t1
      obtain ⟨⟨c0, c1, c2, c3⟩, ⟨f0, f1, f2, f3⟩, hl0⟩ := M4.out.box4 1 rfl
      obtain ⟨⟨d0, d1, d2, d3⟩, _, hl1⟩ := M4.out.box4 3 rfl
      have hn02 : ¬ w.heap.size + 1 = w2.heap.size := M4.out.ne 1 3 rfl rfl (by decide)
      have hn20 : ¬ w2.heap.size = w.heap.size + 1 := fun e => hn02 e.symm
      go_wp2
      have MF := M4.out.put4 1 rfl (.int .u64 b) (.int .u64 t) (.int .u64 kn) (.slice A2 n2 cap2)
      refine bodyPost_ret (Bx.res_ct Try.results17 rfl (snd_load (MF.blk 1 rfl))) rfl ?_
      exact SndX.mk (by rw [HP2.out, HR.out]) (by rw [HP2.out]; rfl) (MF.row 2 rfl) (S4.out.put4 (Blk.of M4.out 1 rfl (by decide) HBB.out) _ _ _ _) MF.held
  have HP5 : Is p (if (decide (on ≤ b) || decide (n2 < on - b)) = true then (⟨b, t, kn, gs L⟩, false) else if ackAt ⟨b, t, kn, gs L⟩ on ≠ some X then (⟨b, t, kn, gs L⟩, false) else (⟨on, t, X, (gs L).drop (on - b)⟩, true)) := ⟨by rw [HP4.out, if_neg t1]⟩
  obtain rfl : Y = true := by cases Y <;> simp_all
  have hNl : N = orest.length := by simpa using t1
  subst hNl
  clear HP4 t1
  by_cases t5 : (on : Int) ≤ b
  · have HP2 : Is p (⟨b, t, kn, gs L⟩, false) := ⟨by rw [HP5.out, if_pos (by simp; omega)]⟩
    clear HP5
    obtain ⟨⟨c0, c1, c2, c3⟩, ⟨f0, f1, f2, f3⟩, hl0⟩ := M4.out.box4 1 rfl
    obtain ⟨⟨d0, d1, d2, d3⟩, _, hl1⟩ := M4.out.box4 3 rfl
    have hn02 : ¬ w.heap.size + 1 = w2.heap.size := M4.out.ne 1 3 rfl rfl (by decide)
    have hn20 : ¬ w2.heap.size = w.heap.size + 1 := fun e => hn02 e.symm
    go_wp2
    have MF := M4.out.put4 1 rfl (.int .u64 b) (.int .u64 t) (.int .u64 kn) (.slice A2 n2 cap2)
    refine bodyPost_ret (Bx.res_ct Try.results17 rfl (snd_load (MF.blk 1 rfl))) rfl ?_
    exact SndX.mk (by rw [HP2.out, HR.out]) (by rw [HP2.out]; rfl) (MF.row 2 rfl) (S4.out.put4 (Blk.of M4.out 1 rfl (by decide) HBB.out) _ _ _ _) MF.held
  have t5d : decide ((on : Int) ≤ b) = false := decide_eq_false t5
  have t5n : decide (on ≤ b) = false := decide_eq_false (by omega)
  obtain ⟨gone, hgone⟩ : ∃ g, on - b = g := ⟨_, rfl⟩
  have hg1 : (on : Int) - b = (gone : Int) := by omega
  have hg2 : 1 ≤ gone := by omega
  rw [hgone, t5n, Bool.false_or] at HP5
  have HGN := Lib.hid hgone
  have hgl : (gone : Int) ≤ 18446744073709551615 := by omega
  clear hgone
  by_cases t6 : (n2 : Int) < gone
  · have HP2 : Is p (⟨b, t, kn, gs L⟩, false) := ⟨by rw [HP5.out, if_pos (by simp; omega)]⟩
    clear HP5
    obtain ⟨⟨c0, c1, c2, c3⟩, ⟨f0, f1, f2, f3⟩, hl0⟩ := M4.out.box4 1 rfl
    obtain ⟨⟨d0, d1, d2, d3⟩, _, hl1⟩ := M4.out.box4 3 rfl
    have hn02 : ¬ w.heap.size + 1 = w2.heap.size := M4.out.ne 1 3 rfl rfl (by decide)
    have hn20 : ¬ w2.heap.size = w.heap.size + 1 := fun e => hn02 e.symm
    go_wp2
    have MF := M4.out.put4 1 rfl (.int .u64 b) (.int .u64 t) (.int .u64 kn) (.slice A2 n2 cap2)
    refine bodyPost_ret (Bx.res_ct Try.results17 rfl (snd_load (MF.blk 1 rfl))) rfl ?_
    exact SndX.mk (by rw [HP2.out, HR.out]) (by rw [HP2.out]; rfl) (MF.row 2 rfl) (S4.out.put4 (Blk.of M4.out 1 rfl (by decide) HBB.out) _ _ _ _) MF.held
  have t6d : decide ((n2 : Int) < gone) = false := decide_eq_false t6
  have t6n : decide (n2 < gone) = false := decide_eq_false (by omega)
  have HP6 : Is p (if ackAt ⟨b, t, kn, gs L⟩ on ≠ some X then (⟨b, t, kn, gs L⟩, false) else (⟨on, t, X, (gs L).drop gone⟩, true)) := ⟨by rw [HP5.out, t6n]; rfl⟩
  clear HP5
  obtain ⟨k, hk⟩ : ∃ k, gone = k + 1 := ⟨gone - 1, by omega⟩
  have hk1 : (gone : Int) - 1 = (k : Int) := by omega
  have hk2 : (k : Int) < n2 := by omega
  have hk3 : (0 : Int) ≤ k := by omega
  obtain ⟨g, x, rfl, hge, hgl2, hxk, hxc⟩ := M4.out.slot 2 rfl segC_len (by decide) (k := k) (by rw [HRL.out]; omega)
  have x1 := (hxc 1 (by decide)).2 _ rfl
  have HA : Is (ackAt ⟨b, t, kn, gs L⟩ on) (some x.kn) := ⟨by rw [← HR.out]; exact ackAt_eq hxk (by rw [HGN.out]; omega)⟩
  have HP7 : Is p (if x.kn ≠ X then (⟨b, t, kn, gs L⟩, false) else (⟨on, t, X, (gs L).drop gone⟩, true)) := ⟨by rw [HP6.out, HA.out]; simp⟩
  obtain ⟨xk, hxe⟩ : ∃ xk, x.kn = xk := ⟨_, rfl⟩
  rw [hxe] at x1 HP7
  obtain ⟨⟨d0, d1, d2, d3⟩, _, hl1⟩ := M4.out.box4 3 rfl
  clear HP6 HA hxc hxk hxe HGN hk
  by_cases t7 : ¬ xk = X
  · have t7b : ((xk : Int) == X) = false := by rw [beq_eq_false_iff_ne]; omega
    have t7c : (xk == X) = false := by rw [beq_eq_false_iff_ne]; exact t7
    have HP2 : Is p (⟨b, t, kn, gs L⟩, false) := ⟨by rw [HP7.out, if_pos t7]⟩
    clear HP7 d0 d1 d2 d3 hl1
    obtain ⟨⟨c0, c1, c2, c3⟩, ⟨f0, f1, f2, f3⟩, hl0⟩ := M4.out.box4 1 rfl
    obtain ⟨⟨d0, d1, d2, d3⟩, _, hl1⟩ := M4.out.box4 3 rfl
    have hn02 : ¬ w.heap.size + 1 = w2.heap.size := M4.out.ne 1 3 rfl rfl (by decide)
    have hn20 : ¬ w2.heap.size = w.heap.size + 1 := fun e => hn02 e.symm
    go_wp2
    have MF := M4.out.put4 1 rfl (.int .u64 b) (.int .u64 t) (.int .u64 kn) (.slice (some ⟨g, 0, none⟩) n2 cap2)
    refine bodyPost_ret (Bx.res_ct Try.results17 rfl (snd_load (MF.blk 1 rfl))) rfl ?_
    exact SndX.mk (by rw [HP2.out, HR.out]) (by rw [HP2.out]; rfl) (MF.row 2 rfl) (S4.out.put4 (Blk.of M4.out 1 rfl (by decide) HBB.out) _ _ _ _) MF.held
  have t7 := Decidable.not_not.1 t7
  subst t7
  have HP2 : Is p (⟨on, t, xk, (gs L).drop gone⟩, true) := ⟨by rw [HP7.out, if_neg (by simp)]⟩
  clear HP7
  have HD := SlcSg.delete_any segC_len segC_one w.heap.size (.slice (some ⟨g, 0, none⟩) n2 cap2) R 0 gone w4 (M4.out.row 2 rfl) (by omega) (by rw [HRL.out]; omega) (by rw [HRL.out]; omega)
  rw [show ((0 : Nat) : Int) = 0 from rfl] at HD
  have HDD := Lib.hid HD
  clear HD
  go_wp2_with fail
  refine HDD.out.mono ?_
  rintro e w5 hgot
  obtain ⟨v', _, _, hgr, _⟩ := id hgot
  have kk := Chg.own (T := 106) (B := B) (M4.out.row 2 rfl) (by decide) HBB.out hgr
  obtain ⟨A5, cap5, rfl, hcp, M5'⟩ := M4.out.gotten 2 rfl hgot
  have hlen : (R.take 0 ++ R.drop gone).length = n2 - gone := by rw [List.take_zero, List.nil_append, List.length_drop, HRL.out]
  have hnil : R.take 0 ++ R.drop gone = R.drop gone := by rw [List.take_zero, List.nil_append]
  rw [hlen] at M5' hcp ⊢
  rw [hnil] at M5'
  have M5 := Lib.hid M5'
  have S5 := Lib.hid ((S4.out.chg kk).drop gone)
  clear HDD hgot hgr kk M5' M4 S4 hlen hnil a0 a1 a2 a3 hla d0 d1 d2 d3 hl1 x1
  obtain ⟨m5, hm5⟩ : ∃ m5, n2 - gone = m5 := ⟨_, rfl⟩
  rw [hm5] at M5 hcp ⊢
  clear hm5
  have MA := Lib.hid (M5.out.put 3 rfl 3 (.slice A5 m5 cap5))
  have MB := Lib.hid (MA.out.put 3 rfl 0 (.int .u64 on))
  have MC := Lib.hid (MB.out.put 3 rfl 2 (.int .u64 xk))
  have SA := Lib.hid (S5.out.put1 (Blk.of M5.out 3 rfl (by decide) HBB.out) 3 (.slice A5 m5 cap5))
  have SB := Lib.hid (SA.out.put1 (Blk.of MA.out 3 rfl (by decide) HBB.out) 0 (.int .u64 on))
  have SC := Lib.hid (SB.out.put1 (Blk.of MB.out 3 rfl (by decide) HBB.out) 2 (.int .u64 xk))
  obtain ⟨⟨c0, c1, c2, c3⟩, ⟨f0, f1, f2, f3⟩, hl0⟩ := M5.out.box4 1 rfl
  obtain ⟨⟨d0, d1, d2, d3⟩, ⟨g0, g1, g2, g3⟩, hl1⟩ := M5.out.box4 3 rfl
  have hn02 : ¬ w.heap.size + 1 = w2.heap.size := M5.out.ne 1 3 rfl rfl (by decide)
  have hn20 : ¬ w2.heap.size = w.heap.size + 1 := fun e => hn02 e.symm
  go_wp2
  have MF := MC.out.put4 1 rfl (.int .u64 on) (.int .u64 t) (.int .u64 xk) (.slice A5 m5 cap5)
  refine bodyPost_ret (Bx.res_ct Try.results17 rfl (snd_load (MF.blk 1 rfl))) rfl ?_
  exact SndX.mk (by rw [HP2.out, gs_drop, HR.out]) (by rw [HP2.out]; rfl) (MF.row 2 rfl) (SC.out.put4 (Blk.of MC.out 1 rfl (by decide) HBB.out) _ _ _ _) MF.held
end St
end Go.Proofs.Ythpjbffhdaaibaa

set_option linter.unusedVariables false
set_option linter.unusedSimpArgs false
set_option maxRecDepth 100000
namespace Go.Proofs.Ythpjbffhdaaibaa
open Go.RowKit Go.BigFrame Go.Sort Go.Lib
namespace St
open Enc Uv Lg Lgc Strs
def cmpN (x y : Nat) : Int := if x < y then -1 else if y < x then 1 else 0
theorem nan_any (x : Nat) (w : World) : Calls Try.prog 67 #[.int .u64 (x : Int)] w fun e w' => e = .returned (.bool false) ∧ w = w' := by
  go_enter Try.func67, Try.ntmps67
  go_wp2
  go_ret
  exact ⟨rfl, rfl⟩
theorem cmp_any (x y : Nat) (w : World) : Calls Try.prog 44 #[.int .u64 (x : Int), .int .u64 (y : Int)] w fun e w' => e = .returned (.int .i64 (cmpN x y)) ∧ w = w' := by
  rcases Nat.lt_trichotomy x y with h | h | h
  · have h1 : (x : Int) < y := by omega
    have HC : Is (cmpN x y) (-1) := ⟨by unfold cmpN; rw [if_pos h]⟩
    go_enter Try.func44, Try.ntmps44
    go_wp2_with (go_at_call 67; refine (nan_any _ _).mono ?_; rintro e w' ⟨rfl, rfl⟩)
    go_ret
    exact ⟨by rw [HC.out]; rfl, rfl⟩
  · subst h
    have HC : Is (cmpN x x) 0 := ⟨by unfold cmpN; rw [if_neg (by omega), if_neg (by omega)]⟩
    go_enter Try.func44, Try.ntmps44
    go_wp2_with (go_at_call 67; refine (nan_any _ _).mono ?_; rintro e w' ⟨rfl, rfl⟩)
    go_ret
    exact ⟨by rw [HC.out]; rfl, rfl⟩
  · have h1 : ¬ (x : Int) < y := by omega
    have h2 : (y : Int) < x := by omega
    have HC : Is (cmpN x y) 1 := ⟨by unfold cmpN; rw [if_neg (by omega), if_pos h]⟩
    go_enter Try.func44, Try.ntmps44
    go_wp2_with (go_at_call 67; refine (nan_any _ _).mono ?_; rintro e w' ⟨rfl, rfl⟩)
    go_ret
    exact ⟨by rw [HC.out]; rfl, rfl⟩
theorem key_any (s f kn : Nat) (A : Option Addr) (n cap : Nat) (y : Nat) (w : World) : Calls Try.prog 43 #[.agg #[.int .u64 (s : Int), .int .u64 (f : Int), .int .u64 (kn : Int), .slice A n cap], .int .u64 (y : Int)] w fun e w' => e = .returned (.int .i64 (cmpN s y)) ∧ Held w w' := by
  have HC := Lib.hid fun w => cmp_any s y w
  generalize cmpN s y = c at HC ⊢
  go_enter Try.func43, Try.ntmps43
  go_wp2_with (go_at_call 44; refine (HC.out _).mono ?_; rintro e w' ⟨rfl, rfl⟩)
  go_ret
  exact ⟨rfl, (Held.refl w).alloc _⟩
theorem before_is {n i : Nat} : ∀ {l : List Er}, i ≤ l.length → (∀ k (h : k < l.length), k < i → l[k].s < n) → (∀ h : i < l.length, ¬ l[i].s < n) → before n l = i := by
  induction i with
  | zero =>
    intro l _ _ h
    cases l with
    | nil => rfl
    | cons y l =>
      have h0 : ¬ y.s < n := h (Nat.zero_lt_succ _)
      rw [before_cons, if_neg h0]
  | succ i ih =>
    intro l hl h1 h2
    cases l with
    | nil => simp at hl
    | cons y l =>
      have h0 : y.s < n := h1 0 (Nat.zero_lt_succ _) (Nat.zero_lt_succ _)
      rw [before_cons, if_pos h0]
      congr 1
      refine ih (by simpa using hl) (fun k hk hki => ?_) (fun h => ?_)
      · exact h1 (k + 1) (by simpa using hk) (by omega)
      · exact h2 (by simpa using h)
theorem has_is {n i : Nat} {l : List Er} (hp : l.Pairwise fun x y => x.s < y.s) (h1 : ∀ k (h : k < l.length), k < i → l[k].s < n) (h2 : ∀ k (h : k < l.length), i ≤ k → ¬ l[k].s < n) : has n l = if h : i < l.length then decide (l[i].s = n) else false := by
  unfold has
  split
  · rename_i hi
    by_cases e : l[i].s = n
    · rw [decide_eq_true e, List.any_eq_true]
      exact ⟨_, List.getElem_mem hi, decide_eq_true e⟩
    · rw [decide_eq_false e, List.any_eq_false]
      intro x hx
      obtain ⟨k, hk, rfl⟩ := List.mem_iff_getElem.1 hx
      simp only [decide_eq_true_eq]
      intro q
      by_cases hki : k < i
      · have := h1 k hk hki; omega
      · by_cases hke : k = i
        · subst hke; exact e q
        · have := List.pairwise_iff_getElem.1 hp i k hi hk (by omega)
          have := h2 i hi (Nat.le_refl _)
          omega
  · rename_i hi
    rw [List.any_eq_false]
    intro x hx
    obtain ⟨k, hk, rfl⟩ := List.mem_iff_getElem.1 hx
    simp only [decide_eq_true_eq]
    have := h1 k hk (by omega)
    omega
theorem asc_pair {n : Nat} : ∀ {l : List Er} {a : Nat}, asc n a l = true → l.Pairwise (fun x y => x.s < y.s) ∧ ∀ x ∈ l, a < x.s
  | [], _, _ => ⟨List.Pairwise.nil, fun x hx => by simp at hx⟩
  | x :: l, a, h => by
    unfold asc at h
    simp only [Bool.and_eq_true, decide_eq_true_eq] at h
    obtain ⟨h1, h2⟩ := asc_pair h.2
    exact ⟨List.pairwise_cons.2 ⟨h2, h1⟩, fun y hy => by
      rcases List.mem_cons.1 hy with rfl | hy
      · exact h.1.1.1
      · have := h2 y hy; omega⟩
/-- A call tells where a number stands among the early ones, and whether it is there. -/
def FindTo (E : List Er) (y : Nat) (w : World) (e : Ending) (w' : World) : Prop := e = .returned (.tuple #[.int .i64 ((before y E : Nat) : Int), .bool (has y E)]) ∧ Held w w'
set_option maxHeartbeats 1000000 in
theorem search_any (A : Option Addr) (n cap : Nat) (L : List ErR) (y : Nat) (w : World) (h : Sl 4 erC w A n L) (hn : n ≤ 1000000) (hp : (ers L).Pairwise fun x y => x.s < y.s) :
    Calls Try.prog 42 #[.slice A n cap, .int .u64 (y : Int), .func (.func 43) #[] #[]] w (FindTo (ers L) y w) := by
  have HG := Lib.hid h
  have hL : L.length = n := h.1
  have HL : Is (ers L).length n := ⟨by rw [ers_len]; exact hL⟩
  have HS := Lib.hid hp
  have HE : Hid (∀ k (h1 : k < (ers L).length) (h2 : k < L.length), (ers L)[k] = L[k].e) := fun k h1 h2 => List.getElem_map ErR.e
  have HLL : Is L.length n := ⟨hL⟩
  clear h hp hL
  go_enter Try.func42, Try.ntmps42
  go_wp2
  go_loopw [9, 10] (fun a b wr => ∃ i j : Nat, a = .int .i64 i ∧ b = .int .i64 j ∧ i ≤ j ∧ j ≤ n ∧ Hid (∀ k (hk : k < (ers L).length), k < i → (ers L)[k].s < y) ∧ Hid (∀ k (hk : k < (ers L).length), j ≤ k → ¬ (ers L)[k].s < y) ∧ Held w wr) (fun a b _ => (RowKit.intOf b).toNat - (RowKit.intOf a).toNat)
  case atStart => exact ⟨0, n, rfl, rfl, Nat.zero_le _, Nat.le_refl _, (fun k _ h => absurd h (Nat.not_lt_zero _) : ∀ k (hk : k < (ers L).length), k < 0 → (ers L)[k].s < y), (fun k hk h => absurd hk (by rw [HL.out]; omega) : ∀ k (hk : k < (ers L).length), n ≤ k → ¬ (ers L)[k].s < y), Held.refl w⟩
  case round =>
    obtain ⟨i, j, rfl, rfl, hij, hjn, L1, L2, hh⟩ := hrel
    by_cases hlt : i < j
    · have hm : (i + j) / 2 < n := by omega
      obtain ⟨b, off, s', f', kn', A', n', cap', es', rfl, lb, hp, p0, p1, p2, p3⟩ := erAt HG.out hh hm
      have HC : ∀ w, Hid (Calls Try.prog 43 #[.agg #[.int .u64 (s' : Int), .int .u64 (f' : Int), .int .u64 (kn' : Int), .slice A' n' cap'], .int .u64 (y : Int)] w fun e w' => e = .returned (.int .i64 (cmpN s' y)) ∧ Held w w') := fun w => key_any s' f' kn' A' n' cap' y w
      generalize hmid : (i + j) / 2 = mid at *
      have hm1 : i ≤ mid := by omega
      have hm2 : mid < j := by omega
      have hml : mid < (ers L).length := by rw [HL.out]; exact hm
      have hml2 : mid < L.length := by rw [HLL.out]; exact hm
      have hpe : (ers L)[mid].s = s' := by
        rw [HE.out mid hml hml2]
        rw [List.getElem?_eq_getElem hml2] at hp
        injection hp with hp; rw [hp]; rfl
      have HPE := Lib.hid hpe
      have HM1 : Hid (s' < y → ∀ k (hk : k < (ers L).length), k < mid + 1 → (ers L)[k].s < y) := fun h k hk hkm => by
        by_cases q : k = mid
        · subst q; rw [HPE.out]; exact h
        · have := List.pairwise_iff_getElem.1 HS.out k mid hk hml (by omega)
          have := HPE.out
          omega
      have HM2 : Hid (¬ s' < y → ∀ k (hk : k < (ers L).length), mid ≤ k → ¬ (ers L)[k].s < y) := fun h k hk hkm => by
        by_cases q : k = mid
        · subst q; rw [HPE.out]; exact h
        · have := List.pairwise_iff_getElem.1 HS.out mid k hml hk (by omega)
          have := HPE.out
          omega
      have z1 : (0 : Int) ≤ i := by omega
      have z2 : (mid : Int) < n := by omega
      have z3 : (0 : Int) ≤ mid := by omega
      have HMD := Lib.hid hmid
      clear hp hpe HPE hml hml2
      by_cases hcv : s' < y
      · have HCV : Is (cmpN s' y) (-1) := ⟨by unfold cmpN; rw [if_pos hcv]⟩
        rw [HCV.out] at HC
        go_wp2_with (go_at_call 43; (with_reducible refine (HC _).out.mono ?_); rintro e w5 ⟨rfl, h5⟩)
        go_roundw
        case rel => exact ⟨mid + 1, j, by go_num, rfl, by omega, hjn, (HM1.out hcv : ∀ k (hk : k < (ers L).length), k < mid + 1 → (ers L)[k].s < y), L2, hh.step h5⟩
        case measure => simp [RowKit.intOf]; omega
      · obtain ⟨cv, hcve⟩ : ∃ cv, cmpN s' y = cv := ⟨_, rfl⟩
        have hcv0 : ¬ cv < 0 := by rw [← hcve]; unfold cmpN; rw [if_neg hcv]; split <;> decide
        rw [hcve] at HC
        clear hcve
        go_wp2_with (go_at_call 43; (with_reducible refine (HC _).out.mono ?_); rintro e w5 ⟨rfl, h5⟩)
        go_roundw
        case rel => exact ⟨i, mid, rfl, by go_num, by omega, by omega, L1, (HM2.out hcv : ∀ k (hk : k < (ers L).length), mid ≤ k → ¬ (ers L)[k].s < y), hh.step h5⟩
        case measure => simp [RowKit.intOf]; omega
    · obtain rfl : j = i := by omega
      have HPOS : Is (before y (ers L)) j := ⟨before_is (by rw [HL.out]; exact hjn) L1.out fun h => L2.out j h (Nat.le_refl _)⟩
      have HHAS : Is (has y (ers L)) (if h : j < (ers L).length then decide ((ers L)[j].s = y) else false) := ⟨has_is HS.out L1.out L2.out⟩
      by_cases hjl : j < n
      · obtain ⟨b, off, s', f', kn', A', n', cap', es', rfl, lb, hp, p0, p1, p2, p3⟩ := erAt HG.out hh hjl
        have HC : ∀ w, Hid (Calls Try.prog 43 #[.agg #[.int .u64 (s' : Int), .int .u64 (f' : Int), .int .u64 (kn' : Int), .slice A' n' cap'], .int .u64 (y : Int)] w fun e w' => e = .returned (.int .i64 (cmpN s' y)) ∧ Held w w') := fun w => key_any s' f' kn' A' n' cap' y w
        have hml : j < (ers L).length := by rw [HL.out]; exact hjl
        have hml2 : j < L.length := by rw [HLL.out]; exact hjl
        have hpe : (ers L)[j].s = s' := by
          rw [HE.out j hml hml2]
          rw [List.getElem?_eq_getElem hml2] at hp
          injection hp with hp; rw [hp]; rfl
        have HH : Is (has y (ers L)) (cmpN s' y == 0) := ⟨by
          rw [HHAS.out, dif_pos hml, hpe]
          unfold cmpN
          by_cases e : s' = y
          · subst e; simp
          · rw [decide_eq_false e]
            split
            · rfl
            · rw [if_pos (by omega)]; rfl⟩
        obtain ⟨cv, hcve⟩ : ∃ cv, cmpN s' y = cv := ⟨_, rfl⟩
        rw [hcve] at HC HH
        have z2 : (j : Int) < n := by omega
        have z3 : (0 : Int) ≤ j := by omega
        have nlt : ¬ (j : Int) < j := by omega
        clear hp L1 L2 hpe hml hml2 HHAS hcve
        go_wp2_with (go_at_call 43; (with_reducible refine (HC _).out.mono ?_); rintro e w5 ⟨rfl, h5⟩)
        go_ret2
        refine ⟨?_, hh.step h5⟩
        rw [HPOS.out, HH.out]; rfl
      · have z2 : ¬ (j : Int) < n := by omega
        have nlt : ¬ (j : Int) < j := by omega
        have HH : Is (has y (ers L)) false := ⟨by rw [HHAS.out, dif_neg (by rw [HL.out]; exact hjl)]⟩
        have hz2 : decide ((j : Int) < n) = false := decide_eq_false z2
        clear L1 L2 HHAS
        go_wp2
        go_ret2
        refine ⟨?_, hh⟩
        rw [HPOS.out, HH.out]; rfl
end St
end Go.Proofs.Ythpjbffhdaaibaa
