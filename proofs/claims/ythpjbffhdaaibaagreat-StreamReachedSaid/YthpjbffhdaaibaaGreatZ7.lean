/-
  Contracts: what Encode of eventlog calls, and Encode.
  Contracts: Ordered of bare and of the reference.
  Contracts: Encode of eventlog.
  Rows of the call's own, written in place: over any program.
  What a call has in memory of its own, as a list of pieces (boxes, rows): over any program.
  Pieces of memory: some of them, in another order (over any program).
  Pieces of memory: an empty slice; append of a list, in a walk and at a step of a region that draws its order (over any program).
  Pieces of memory: append in place, where there is room; the row without its last element (over any program).
  Pieces of memory: append of whatever slice, nil and empty ones too (over any program).
-/
import Derived.Test.YthpjbffhdaaibaaGreatZ3
import Derived.Test.YthpjbffhdaaibaaGreatZ6
import Derived.Test.YthpjbffhdaaibaaGreatZ2
import Derived.Lib.QuietBelow
import Derived.BigQuiet
import Derived.Outline
import Derived.Deep.RegionHeld3
import Derived.RegionTactic
import Derived.BigRegion
import Derived.Deep.DeepCutAuto
import Derived.IntWalk
import Derived.WalkKit
import Derived.OwnWalk
import Derived.Deep.AppendLies
import Derived.Deep.Upon
set_option linter.unusedVariables false
set_option linter.unusedSimpArgs false
set_option maxRecDepth 100000
namespace Go.Proofs.YthpjbffhdaaibaaGreat
open Go.RowKit Go.BigFrame Go.Sort
namespace Enc
open Lgc Lg Strs
theorem encE1 (n : Nat) (d : List UInt8) (k : Nat) (h : k = 1 ∨ k = 3 ∨ k = 6) : encE k n d = Uv.put k ++ Uv.put n := by
  unfold encE; rw [if_pos (by omega)]; rfl
theorem encE4 (n : Nat) (d : List UInt8) : encE (4 : Nat) n d = Uv.put 4 ++ Uv.put n ++ (Uv.put d.length ++ d) := rfl
theorem encE5 (n : Nat) (d : List UInt8) : encE (5 : Nat) n d = Uv.put 5 ++ (Uv.put d.length ++ d) := rfl
theorem encE2 (n : Nat) (d : List UInt8) : encE (2 : Nat) n d = Uv.put 2 := rfl
set_option maxHeartbeats 2000000 in
theorem encodeEvent_any (k n : Nat) (d : ByteArray) (h1 : 1 ≤ k) (h6 : k ≤ 6) (hn : (n : Int) ≤ 4294967295) (hd : d.size ≤ 128) (w : World) :
    Calls Tryz.prog 96 #[.agg #[.int .i64 k, .int .u32 n, .string d]] w (MakesS (encE k n d.data.toList) w) := by
  have hp1 := Uv.put_len k (by omega)
  have hp2 := Uv.put_len n (by omega)
  have hp3 := Uv.put_len d.size (by omega)
  have H1 := Lib.hid (fun w => put_any k (by omega) w)
  have H2 := Lib.hid (fun w => put_any n (by omega) w)
  have H3 := Lib.hid (fun w => put_any d.size (by omega) w)
  have hlen := len_eq d
  have E1 : Hid (k = 1 ∨ k = 3 ∨ k = 6 → encE k n d.data.toList = Uv.put k ++ Uv.put n) := fun h => encE1 n _ k h
  have E4 : Hid (k = 4 → encE k n d.data.toList = Uv.put k ++ Uv.put n ++ (Uv.put d.size ++ d.data.toList)) := fun h => by subst h; rw [← hlen]; exact encE4 n _
  have E5 : Hid (k = 5 → encE k n d.data.toList = Uv.put k ++ (Uv.put d.size ++ d.data.toList)) := fun h => by subst h; rw [← hlen]; exact encE5 n _
  have E2 : Hid (k = 2 → encE k n d.data.toList = Uv.put k) := fun h => by subst h; exact encE2 n _
  generalize Uv.put k = a at hp1 H1 E1 E2 E4 E5
  generalize Uv.put n = b at hp2 H2 E1 E4
  generalize Uv.put d.size = c at hp3 H3 E4 E5
  generalize encE k n d.data.toList = r at E1 E2 E4 E5
  clear hlen
  have HB := Lib.hid (fun w' (h : Held (w.alloc (.cells #[.int .i64 k, .int .u32 n, .string d] 68)) w') => And.intro (h.cell (p := ⟨w.heap.size, 0, none⟩) (v := .int .i64 k) (by simp)) (And.intro (h.cell (p := ⟨w.heap.size, 1, none⟩) (v := .int .u32 n) (by simp)) (h.cell (p := ⟨w.heap.size, 2, none⟩) (v := .string d) (by simp))))
  go_enter Tryz.func96, Tryz.ntmps96
  go_wp2_with fail
  refine (H1.out _).mono ?_
  rintro e w1 ⟨rfl, q1⟩
  have W1 := Lib.hid q1
  obtain ⟨c0, c1, c2⟩ := HB.out _ q1
  clear q1
  go_wp2_with fail
  refine (H2.out _).mono ?_
  rintro e w2 ⟨rfl, q2⟩
  have W2 := Lib.hid (Held.step W1.out q2)
  obtain ⟨d0, d1, d2⟩ := HB.out _ W2.out
  clear q2 c0 c1 c2 W1
  go_wp2
  have k2 := cell_regrown d2
  have cA := Lib.hid fun d os => Calls.regrown_of (d := d) (os := os) (H3.out (grow (redrawn w2 d) os))
  refine wp_region_quiet_below (by kernel_rfl) (by kernel_rfl) ?_
  repeat (go_big_quiet_step (first | (go_at_call 37; exact cA.out _ _)))
  refine wpQuiet_nil ?_
  intro _ hw'
  obtain ⟨⟨dq, osq⟩, hw''⟩ := hw'
  subst hw''
  have W3 := Lib.hid (W2.out.step (below_regrown w2 dq osq))
  obtain ⟨e0, e1, e2⟩ := HB.out _ W3.out
  clear d0 d1 d2 k2 cA W2 H1 H2 H3
  obtain ⟨w3, hw3⟩ : ∃ x, x = grow (redrawn w2 dq) osq := ⟨_, rfl⟩
  rw [← hw3] at W3 e0 e1 e2 ⊢
  clear hw3
  have fin : Hid (∀ s : ByteArray, s.data.toList = r → MakesS r w (.returned (.string s)) w3) := fun s hs => ⟨ret_str hs, ((Held.refl w).alloc _).step W3.out⟩
  have hk : k = 1 ∨ k = 2 ∨ k = 3 ∨ k = 4 ∨ k = 5 ∨ k = 6 := by omega
  rcases hk with rfl | rfl | rfl | rfl | rfl | rfl
  · have he := E1.out (by omega)
    clear E1 E2 E4 E5
    go_wp2
    go_ret
    exact fin.out _ (by rw [he]; simp)
  · have he := E2.out rfl
    clear E1 E2 E4 E5
    go_wp2
    go_ret
    exact fin.out _ (by rw [he])
  · have he := E1.out (by omega)
    clear E1 E2 E4 E5
    go_wp2
    go_ret
    exact fin.out _ (by rw [he]; simp)
  · have he := E4.out rfl
    clear E1 E2 E4 E5
    go_wp2
    go_ret
    exact fin.out _ (by rw [he]; simp)
  · have he := E5.out rfl
    clear E1 E2 E4 E5
    go_wp2
    go_ret
    exact fin.out _ (by rw [he]; simp)
  · have he := E1.out (by omega)
    clear E1 E2 E4 E5
    go_wp2
    go_ret
    exact fin.out _ (by rw [he]; simp)
end Enc
end Go.Proofs.YthpjbffhdaaibaaGreat

set_option linter.unusedVariables false
set_option linter.unusedSimpArgs false
set_option maxRecDepth 100000
namespace Go.Proofs.YthpjbffhdaaibaaGreat
open Go.RowKit Go.BigFrame Go.Sort
namespace Enc
open Lgc Lg Strs
set_option maxHeartbeats 2000000 in
theorem ord_any (A : Option Addr) (n cap : Nat) (L : List Ent) (w : World) (h : Sl 4 entC w A n L) (hn : n ≤ 1000000) (hx : ∀ x ∈ L, EntOK x) :
    Calls Tryz.prog 94 #[.slice A n cap] w fun e w' => e = .returned (.bool (ord L)) ∧ Held w w' := by
  have HS := Lib.hid h
  have HX := Lib.hid hx
  have HL := Lib.hid h.1
  clear h hx
  go_enter Tryz.func94, Tryz.ntmps94
  go_wp2
  go_loopw [3] (fun i wr => ∃ q : Nat, i = .int .i64 ((q + 1 : Nat) : Int) ∧ (q = 0 ∨ q + 1 ≤ n) ∧ ordTo L q = true ∧ Held w wr) (fun i _ => n - (intOf i).toNat)
  case atStart => exact ⟨0, rfl, .inl rfl, rfl, Held.refl _⟩
  case round =>
    obtain ⟨q, rfl, hq, ho, hh⟩ := hrel
    have HO := Lib.hid ho
    have HH := Lib.hid hh
    clear ho
    by_cases hlt : q + 1 < n
    · obtain ⟨b, off, x, rfl, hb, hx1, hc1⟩ := HS.out.at_ hh (k := q) (by omega)
      obtain ⟨b', off', y, he, _, hy1, hc2⟩ := HS.out.at_ hh (k := q + 1) (by omega)
      injection he with he
      injection he with hb1 ho1
      subst hb1 ho1
      have x0 := hc1 0 _ rfl
      have x1 := hc1 1 _ rfl
      have x2 := hc1 2 _ rfl
      have x3 := hc1 3 _ rfl
      have y0 := hc2 0 _ rfl
      have y1 := hc2 1 _ rfl
      have y2 := hc2 2 _ rfl
      have y3 := hc2 3 _ rfl
      rw [Nat.add_zero] at x0 y0
      clear hc1 hc2
      have z1 : (0 : Int) ≤ ↑q + 1 := by omega
      have z2 : (↑q + 1 : Int) < n := by omega
      have z3 : (0 : Int) ≤ ↑q := by omega
      have z4 : (↑q : Int) < n := by omega
      have hbr : b < wr.heap.size := by have := HH.out.le; omega
      have hbr2 : b < wr.heap.size + 1 := by omega
      have hbn : ¬ b = wr.heap.size := by omega
      have hbn2 : ¬ b = wr.heap.size + 1 := by omega
      have hxe : L[q]'(by have := HL.out; omega) = x := by rw [List.getElem?_eq_getElem (by have := HL.out; omega)] at hx1; injection hx1
      have hye : L[q + 1]'(by have := HL.out; omega) = y := by rw [List.getElem?_eq_getElem (by have := HL.out; omega)] at hy1; injection hy1
      have hn1 := ordTo_next (L := L) (k := q) (by have := HL.out; omega)
      rw [hxe, hye, HO.out] at hn1
      have HNX := Lib.hid hn1
      have HSZ : Hid (w.heap.size ≤ wr.heap.size) := HH.out.le
      clear hx1 hy1 hxe hye hn1 hq hb hh
      rcases Nat.lt_trichotomy y.t x.t with ht | ht | ht
      · have hno : Hid (ord L = false) := ordTo_no (j := q + 1) (by rw [HNX.out]; simp [adj, ht]) (by have := HL.out; omega)
        have t1 : (y.t : Int) < x.t := by omega
        go_wp2
        go_region
        all_goals
          go_wp2
          go_ret
          exact ⟨by rw [hno.out]; rfl, ((HH.out.drew.alloc _).alloc _)⟩
      · have t1 : ((y.t : Int) == x.t) = true := by simp [ht]
        have t2 : decide (y.t < x.t) = false := by simp; omega
        have t3 : decide ((y.t : Int) < x.t) = false := by simp; omega
        by_cases hk : x.k = 1
        · have hno : Hid (ord L = false) := ordTo_no (j := q + 1) (by rw [HNX.out]; simp [adj, ht, hk]) (by have := HL.out; omega)
          have t4 : (x.k == 1) = true := by simp [hk]
          clear ht hk
          go_wp2
          go_region
          all_goals
            go_wp2
            go_ret
            exact ⟨by rw [hno.out]; rfl, ((HH.out.drew.alloc _).alloc _)⟩
        · have hyes : Hid (ordTo L (q + 1) = true) := show _ = _ by rw [HNX.out]; simp [adj, ht, hk]
          have t4 : (x.k == 1) = false := by simp [hk]
          clear ht hk
          go_wp2
          go_region
          all_goals
            go_wp2
            go_roundw
            case rel => exact ⟨q + 1, by go_num, .inr (by omega), hyes.out, ((HH.out.drew.alloc _).alloc _)⟩
            case measure => (simp [intOf]) <;> omega
      · have hyes : Hid (ordTo L (q + 1) = true) := show _ = _ by rw [HNX.out]; simp [adj]; omega
        have t1 : ((y.t : Int) == x.t) = false := by simp; omega
        have t2 : decide (y.t < x.t) = false := by simp; omega
        have t3 : decide ((y.t : Int) < x.t) = false := by simp; omega
        clear ht
        go_wp2
        go_region
        all_goals
          go_wp2
          go_roundw
          case rel => exact ⟨q + 1, by go_num, .inr (by omega), hyes.out, ((HH.out.drew.alloc _).alloc _)⟩
          case measure => (simp [intOf]) <;> omega
    · have hyes : Hid (ord L = true) := show _ = _ by
        unfold ord
        rw [HL.out, show n - 1 = q by omega]; exact HO.out
      clear hh
      go_wp2
      go_ret
      exact ⟨by rw [hyes.out]; rfl, HH.out⟩
end Enc
end Go.Proofs.YthpjbffhdaaibaaGreat

set_option linter.unusedVariables false
set_option linter.unusedSimpArgs false
set_option maxRecDepth 100000
namespace Go.Proofs.YthpjbffhdaaibaaGreat
open Go.RowKit Go.BigFrame Go.Sort
namespace Enc
open Lgc Lg Strs
def EncTo (r : List UInt8 × Int) (w : World) (e : Ending) (w' : World) : Prop := e = .returned (.tuple #[.string ⟨r.1.toArray⟩, .int .i64 r.2]) ∧ Held w w'
theorem EncTo.mk {r : List UInt8 × Int} {w w' : World} {s : ByteArray} {c : Int} (h : r = (s.data.toList, c)) (hh : Held w w') : EncTo r w (.returned (.tuple #[.string s, .int .i64 c])) w' := by
  subst h; exact ⟨by rw [← str_mk (s := s) rfl], hh⟩
/-- A box that holds an entry. -/
def BoxE (q : Nat) (x : Ent) (w : World) : Prop := w.heap[q]? = some (.cells #[.int .u64 (x.t : Int), .int .i64 x.k, .int .u32 x.n, .string x.d] 70 (0, 0))
theorem BoxE.cells {q : Nat} {x : Ent} {w : World} (h : BoxE q x w) : w.cell? ⟨q, 0, none⟩ = some (.int .u64 (x.t : Int)) ∧ w.cell? ⟨q, 1, none⟩ = some (.int .i64 x.k) ∧ w.cell? ⟨q, 2, none⟩ = some (.int .u32 x.n) ∧ w.cell? ⟨q, 3, none⟩ = some (.string x.d) :=
  ⟨box_cell h 0 rfl, box_cell h 1 rfl, box_cell h 2 rfl, box_cell h 3 rfl⟩
theorem BoxE.held {q : Nat} {x : Ent} {w w' : World} (h : BoxE q x w) (k : Held w w') : BoxE q x w' := (k.block q (box_lt h)).trans h
theorem BoxE.kept {q b : Nat} {x : Ent} {w w' : World} (h : BoxE q x w) (k : Bld.Kept b w w') (hb : q ≠ b) : BoxE q x w' := k.box h hb (by decide)
theorem BoxE.new (x : Ent) (w : World) : BoxE w.heap.size x (w.alloc (.cells #[.int .u64 (x.t : Int), .int .i64 x.k, .int .u32 x.n, .string x.d] 70)) := box_new _ _
theorem all_next (L : List Ent) (k : Nat) (h : k < L.length) : (L.take (k + 1)).all okX = ((L.take k).all okX && okX L[k]) := by
  rw [take_next L k h, List.all_append]; simp
theorem all_no {L : List Ent} {k : Nat} (h : (L.take k).all okX = false) : L.all okX = false := by
  cases hh : L.all okX
  · rfl
  · rw [List.all_eq_true] at hh
    rw [List.all_eq_false] at h
    obtain ⟨x, hx, hn⟩ := h
    exact absurd (hh x (List.mem_of_mem_take hx)) hn
theorem enc_long {L : List Ent} {f : Nat} (h : 400 < L.length) : encode L f = ([], 1902) := if_pos h
theorem enc_form {L : List Ent} {f : Nat} (h : ¬ 400 < L.length) (h2 : L.all okX = false) : encode L f = ([], 1900) := by unfold encode; rw [if_neg h, if_pos h2]
theorem enc_order {L : List Ent} {f : Nat} (h : ¬ 400 < L.length) (h2 : L.all okX = true) (h3 : (!ord L || early L f) = true) : encode L f = ([], 1901) := by unfold encode; rw [if_neg h, if_neg (by simp [h2]), if_pos h3]
theorem enc_big {L : List Ent} {f : Nat} (h : ¬ 400 < L.length) (h2 : L.all okX = true) (h3 : (!ord L || early L f) = false) (h4 : 65536 < (Uv.put L.length ++ encF f L).length) : encode L f = ([], 1902) := by unfold encode; rw [if_neg h, if_neg (by simp [h2]), if_neg (by simp [h3]), if_pos h4]
theorem enc_yes {L : List Ent} {f : Nat} (h : ¬ 400 < L.length) (h2 : L.all okX = true) (h3 : (!ord L || early L f) = false) (h4 : ¬ 65536 < (Uv.put L.length ++ encF f L).length) : encode L f = (Uv.put L.length ++ encF f L, 0) := by unfold encode; rw [if_neg h, if_neg (by simp [h2]), if_neg (by simp [h3]), if_neg h4]
set_option maxHeartbeats 4000000 in
/-- The part behind the tests: the loop that writes. -/
theorem encode_any (A : Option Addr) (n cap : Nat) (L : List Ent) (f : Nat) (w : World) (h : Sl 4 entC w A n L) (hn : n ≤ 1000000) (hx : ∀ x ∈ L, EntOK x) (hf : (f : Int) ≤ 18446744073709551615) :
    Calls Tryz.prog 67 #[.slice A n cap, .int .u64 f] w (EncTo (encode L f) w) := by
  have HS := Lib.hid h
  have HX := Lib.hid hx
  have HL := Lib.hid h.1
  have hl := h.1
  clear h hx
  by_cases h4 : (400 : Int) < n
  · have HE := Lib.hid (enc_long (f := f) (L := L) (by omega))
    clear hl
    go_enter Tryz.func67, Tryz.ntmps67
    go_wp2
    go_ret2
    exact EncTo.mk HE.out (Held.refl _)
  · have HN : Hid (¬ 400 < L.length) := by show ¬ _; omega
    clear hl
    go_enter Tryz.func67, Tryz.ntmps67
    go_wp2
    go_loopw [16] (fun i wr => ∃ k : Nat, i = .int .i64 k ∧ k ≤ n ∧ (L.take k).all okX = true ∧ Held w wr) (fun i _ => n - (intOf i).toNat)
    case atStart => exact ⟨0, rfl, Nat.zero_le _, rfl, Held.refl _⟩
    case round =>
      obtain ⟨k, rfl, hk, ho, hh⟩ := hrel
      have HO := Lib.hid ho
      have HH := Lib.hid hh
      clear ho
      by_cases hlt : (k : Int) < n
      · obtain ⟨b, off, x, rfl, hb, hx1, hc1⟩ := HS.out.at_ hh (k := k) (by omega)
        have x0 := hc1 0 _ rfl
        have x1 := hc1 1 _ rfl
        have x2 := hc1 2 _ rfl
        have x3 := hc1 3 _ rfl
        rw [Nat.add_zero] at x0
        have hkL : k < L.length := by have := HL.out; omega
        have hxe : L[k] = x := by rw [List.getElem?_eq_getElem hkL] at hx1; injection hx1
        have hn1 := all_next L k hkL
        rw [hxe, HO.out, Bool.true_and] at hn1
        have hxo : EntOK x := HX.out x (hxe ▸ List.getElem_mem hkL)
        have HNX := Lib.hid hn1
        have HV := Lib.hid (fun w => Ev.valid_any x.k x.n x.d hxo.k1 hxo.k2 hxo.n1 hxo.n2 hxo.d w)
        clear hc1 hx1 hxe hn1 hh hkL hxo
        obtain ⟨v, hv⟩ : ∃ v, Ev.ok x.k x.n x.d.data.toList = v := ⟨_, rfl⟩
        rw [hv] at HV
        have HVX : Hid (okX x = v) := hv
        clear hv
        cases v
        · have HE := Lib.hid (enc_form (f := f) HN.out (all_no (by rw [HNX.out]; exact HVX.out)))
          go_wp2_with (go_at_call 93; refine (HV.out _).mono ?_; rintro e w1 ⟨rfl, h1⟩)
          go_ret2
          exact EncTo.mk HE.out ((HH.out.alloc _).step h1)
        · go_wp2_with (go_at_call 93; refine (HV.out _).mono ?_; rintro e w1 ⟨rfl, h1⟩)
          go_roundw
          case rel => exact ⟨k + 1, by go_num, by omega, HNX.out.trans HVX.out, (HH.out.alloc _).step h1⟩
          case measure => (simp [intOf]) <;> omega
      · obtain rfl : k = n := by omega
        have HA : Hid (L.all okX = true) := show _ = _ by have := HO.out; rw [← HL.out, List.take_length] at this; exact this
        clear hh HO
        have HOR := Lib.hid (fun cap w' (q : Held w w') => ord_any A k cap L w' (HS.out.held q) (by omega) HX.out)
        go_upto_region 9 with fail
        go_cut [40] (fun v wx => v = .bool (!ord L || early L f) ∧ Held w wx)
        case first =>
          obtain ⟨o, ho⟩ : ∃ o, ord L = o := ⟨_, rfl⟩
          rw [ho] at HOR
          have HHO := Lib.hid ho
          clear ho
          cases o
          · go_wp2_with (go_at_call 94; refine (HOR.out _ _ HH.out).mono ?_; rintro e w1 ⟨rfl, h1⟩)
            go_meet
            exact ⟨by rw [HHO.out]; rfl, HH.out.step h1⟩
          · by_cases hk0 : k = 0
            · have he : Hid (early L f = false) := show _ = _ by
                have : L = [] := List.eq_nil_of_length_eq_zero (by have := HL.out; omega)
                subst this; rfl
              have d1 : decide ((0 : Int) < k) = false := by simp; omega
              have d1n : decide (0 < k) = false := by simp; omega
              clear hk0
              go_wp2_with (go_at_call 94; refine (HOR.out _ _ HH.out).mono ?_; rintro e w1 ⟨rfl, h1⟩)
              go_meet
              exact ⟨by rw [HHO.out, he.out]; rfl, HH.out.step h1⟩
            · obtain ⟨b, off, x, rfl, hb, hx1, hc1⟩ := HS.out.at_ (Held.refl w) (k := 0) (by omega)
              have x0 := hc1 0 _ rfl
              simp only [Nat.zero_mul, Nat.add_zero] at x0
              have he : Hid (early L f = decide (x.t < f)) := show _ = _ by unfold early; rw [hx1]
              have d1 : (0 : Int) < k := by omega
              have d1n : 0 < k := by omega
              clear hk0 hc1 hx1
              have X0 := Lib.hid (fun w' (q : Held w w') => q.cell x0)
              clear x0
              by_cases hlt2 : x.t < f
              · have e1 : (x.t : Int) < f := by omega
                go_wp2_with (go_at_call 94; refine (HOR.out _ _ HH.out).mono ?_; rintro e w1 ⟨rfl, h1⟩; have x0 := X0.out _ (HH.out.step h1))
                go_meet
                exact ⟨by rw [HHO.out, he.out]; simp [hlt2], HH.out.step h1⟩
              · have e2 : decide (x.t < f) = false := by simp; omega
                have e1 : decide ((x.t : Int) < f) = false := by simp; omega
                go_wp2_with (go_at_call 94; refine (HOR.out _ _ HH.out).mono ?_; rintro e w1 ⟨rfl, h1⟩; have x0 := X0.out _ (HH.out.step h1))
                go_meet
                exact ⟨by rw [HHO.out, he.out]; simp [hlt2], HH.out.step h1⟩
        case rest =>
          obtain ⟨rfl, hhx⟩ := hcut
          clear HOR HH
          have HH := Lib.hid hhx
          clear hhx
          obtain ⟨o, ho⟩ : ∃ o, (!ord L || early L f) = o := ⟨_, rfl⟩
          rw [ho]
          cases o
          · have HHO := Lib.hid ho
            clear ho
            have hor : ord L = true ∧ early L f = false := by have := HHO.out; simpa using this
            have HOE := Lib.hid hor
            clear hor
            have hpk := Uv.put_len k (by omega)
            have HP := Lib.hid (fun w => put_any k (by omega) w)
            have HLK : Hid (Uv.put L.length = Uv.put k) := show _ = _ by rw [HL.out]
            generalize Uv.put k = pk at hpk HP HLK
            have B0 := Lib.hid (Bld.Is.new wc)
            have hb0 : Hid (w.heap.size ≤ wc.heap.size) := HH.out.le
            go_wp2_with fail
            refine (HP.out _).mono ?_
            rintro e w1 ⟨rfl, h1⟩
            have B1 := Lib.hid (B0.out.held h1)
            have W1 := Lib.hid ((HH.out.alloc (.cells #[.pointer none, .slice none 0 0] 134)).step h1)
            have hs1 : wc.heap.size < w1.heap.size := by have := h1.size; simp at this; omega
            clear h1 HP B0
            generalize wc.heap.size = bb at hb0 B1 hs1 ⊢
            have hl1 := ba_size pk
            go_wp2_with fail
            refine (Bld.write_any bb [] _ w1 B1.out (by rw [hl1]; simp; omega) (by omega)).mono ?_
            rintro e w2 ⟨rfl, i2, k2⟩
            have i3 : Bld.Is bb (pk ++ encF f (L.take 0)) w2 := by simpa [encF] using i2
            have I2 := Lib.hid i3
            have W2 := Lib.hid (k2.heldOf W1.out hb0.out)
            have hs2 : bb < w2.heap.size := by have := k2.1.size; omega
            clear i2 k2 B1 W1 hs1 hl1 HH i3
            go_wp2
            go_loopw [1, 48] (fun lt i wr => ∃ q : Nat, i = .int .i64 q ∧ q ≤ k ∧ lt = .int .u64 (lastT f (L.take q) : Nat) ∧ Bld.Is bb (pk ++ encF f (L.take q)) wr ∧ Held w wr ∧ bb < wr.heap.size) (fun _ i _ => k - (intOf i).toNat)
            case atStart => exact ⟨0, rfl, Nat.zero_le _, rfl, I2.out, W2.out, hs2⟩
            case round =>
              obtain ⟨q, rfl, hq, rfl, hi, hh, hs3⟩ := hrel
              have HI := Lib.hid hi
              have HH := Lib.hid hh
              have hel : (encF f (L.take q)).length ≤ 168 * q := by
                have := encF_len (L := L.take q) (fun y hy => ⟨HX.out y (List.mem_of_mem_take hy), by have h9 := HA.out; rw [List.all_eq_true] at h9; exact h9 y (List.mem_of_mem_take hy)⟩) f
                rw [List.length_take] at this
                omega
              clear hi
              by_cases hlt2 : (q : Int) < k
              · obtain ⟨b, off, x, rfl, hb, hx1, hc1⟩ := HS.out.at_ hh (k := q) (by omega)
                have x0 := hc1 0 _ rfl
                have x1 := hc1 1 _ rfl
                have x2 := hc1 2 _ rfl
                have x3 := hc1 3 _ rfl
                rw [Nat.add_zero] at x0
                have hqL : q < L.length := by have := HL.out; omega
                have hxe : L[q] = x := by rw [List.getElem?_eq_getElem hqL] at hx1; injection hx1
                have hxm : x ∈ L := hxe ▸ List.getElem_mem hqL
                have hxo := HX.out x hxm
                have hxk : okX x = true := by have h9 := HA.out; rw [List.all_eq_true] at h9; exact h9 x hxm
                obtain ⟨k1, k6, kd⟩ := ok_bd hxk
                have hle := last_le HOE.out.1 HOE.out.2 hqL
                have hln := lastT_next L f q hqL
                have hen := encF_next L f q hqL
                rw [hxe] at hle hln hen
                have hxt := hxo.t
                have hxn := hxo.n1
                have hxn2 := hxo.n2
                clear hxm hxo hxk hxe hx1 hc1 hh
                obtain ⟨t, kk, nn, d⟩ := x
                simp only at x0 x1 x2 x3 k1 k6 kd hle hln hen hxt hxn hxn2
                obtain ⟨kk, rfl⟩ := Int.eq_ofNat_of_zero_le (show 0 ≤ kk by omega)
                obtain ⟨nn, rfl⟩ := Int.eq_ofNat_of_zero_le hxn
                rw [len_eq] at kd
                generalize lastT f (L.take q) = lt at hle hen ⊢
                have HLN := Lib.hid hln
                have HEN := Lib.hid hen
                have hsub : IntKind.u64.wrap ((t : Int) - (lt : Int)) = ((t - lt : Nat) : Int) := by
                  rw [IntWalk.u64_in _ (by omega)]; omega
                have HP := Lib.hid (fun w => put_any (t - lt) (by omega) w)
                have hpl := Uv.put_len (t - lt) (by omega)
                have hpz := ba_size (Uv.put (t - lt))
                have HPZ := Lib.hid hpz
                have HQ := Lib.hid (fun w => encodeEvent_any kk nn d (by omega) (by omega) (by omega) kd w)
                have hql := encE_len (k := kk) (n := nn) (d := d.data.toList) (by omega) (by omega) (by omega) (by omega) (by rw [len_eq]; exact kd)
                have hcl : (pk ++ encF f (L.take q)).length ≤ 70000 := by rw [List.length_append]; omega
                have hcl2 : Hid ((pk ++ encF f (L.take q)).length + (Uv.put (t - lt)).length ≤ 80000) := show _ ≤ _ by omega
                have BX : Hid (BoxE wr.heap.size ⟨t, kk, nn, d⟩ (wr.alloc (.cells #[.int .u64 (t : Int), .int .i64 kk, .int .u32 nn, .string d] 70))) := BoxE.new ⟨t, kk, nn, d⟩ wr
                clear hln hen hpz
                go_wp2_with fail
                refine (HP.out _).mono ?_
                rintro e w3 ⟨rfl, h3⟩
                have B3 := Lib.hid (HI.out.held (Held.step ((Held.refl wr).alloc _) h3))
                have X3 := Lib.hid (BX.out.held h3)
                have W3 := Lib.hid ((HH.out.alloc (.cells #[.int .u64 (t : Int), .int .i64 kk, .int .u32 nn, .string d] 70)).step h3)
                have hs4 : bb < w3.heap.size := by have := h3.size; simp at this; omega
                have hnb : Hid (¬ wr.heap.size = bb) := by show ¬ _; omega
                obtain ⟨z0, z1, z2, z3⟩ := X3.out.cells
                clear h3 HP BX hsub
                go_wp2_with fail
                refine (Bld.write_any bb _ _ w3 B3.out (by rw [HPZ.out]; omega) (by omega)).mono ?_
                rintro e w4 ⟨rfl, i4, k4⟩
                have B4 := Lib.hid i4
                have X4 := Lib.hid (X3.out.kept k4 hnb.out)
                have W4 := Lib.hid (k4.heldOf W3.out hb0.out)
                have hs5 : bb < w4.heap.size := by have := k4.1.size; omega
                clear z0 z1 z2 z3 i4 k4 B3 X3 W3
                obtain ⟨z0, z1, z2, z3⟩ := X4.out.cells
                go_wp2_with fail
                refine (HQ.out _).mono ?_
                rintro e w5 ⟨rfl, h5⟩
                have B5 := Lib.hid (B4.out.held h5)
                have W5 := Lib.hid (W4.out.step h5)
                have hs6 : bb < w5.heap.size := by have := h5.size; omega
                clear z0 z1 z2 z3 h5 B4 X4 W4
                go_wp2_with fail
                refine (Bld.write_any bb _ ⟨(encE kk nn d.data.toList).toArray⟩ w5 B5.out (by rw [ba_size]; have := hcl2.out; simp only [List.length_append] at this ⊢; omega) (by omega)).mono ?_
                rintro e w6 ⟨rfl, i6, k6'⟩
                have B6 : Hid (Bld.Is bb (pk ++ encF f (L.take (q + 1))) w6) := show Bld.Is _ _ _ by
                  rw [HEN.out]; simpa using i6
                have W6 := Lib.hid (k6'.heldOf W5.out hb0.out)
                have hs7 : bb < w6.heap.size := by have := k6'.1.size; omega
                clear i6 k6' B5 W5
                go_wp2
                go_roundw
                case rel => exact ⟨q + 1, by go_num, by omega, by rw [HLN.out], B6.out, W6.out, hs7⟩
                case measure => (simp [intOf]) <;> omega
              · obtain rfl : q = k := by omega
                have htk : L.take q = L := by rw [← HL.out, List.take_length]
                have hcl : (pk ++ encF f L).length ≤ 70000 := by rw [htk] at hel; rw [List.length_append]; omega
                rw [htk] at HI
                clear hh hel htk
                have hcc : Uv.put L.length ++ encF f L = pk ++ encF f L := by rw [HLK.out]
                by_cases h65 : 65536 < (pk ++ encF f L).length
                · have HE := Lib.hid (enc_big (f := f) HN.out HA.out (by simp [HOE.out.1, HOE.out.2]) (by rw [hcc]; exact h65))
                  clear hcc
                  obtain ⟨r, hr⟩ : ∃ r, pk ++ encF f L = r := ⟨_, rfl⟩
                  rw [hr] at HI h65 hcl
                  have h65' : (65536 : Int) < r.length := by omega
                  clear hr
                  go_wp2_with fail
                  refine (Bld.len_any bb r wr HI.out).mono ?_
                  rintro e w3 ⟨rfl, rfl⟩
                  go_wp2
                  go_ret2
                  exact EncTo.mk HE.out HH.out
                · have HE := Lib.hid (enc_yes (f := f) HN.out HA.out (by simp [HOE.out.1, HOE.out.2]) (by rw [hcc]; exact h65))
                  rw [hcc] at HE
                  clear hcc
                  obtain ⟨r, hr⟩ : ∃ r, pk ++ encF f L = r := ⟨_, rfl⟩
                  rw [hr] at HI HE h65 hcl
                  have h65' : ¬ (65536 : Int) < r.length := by omega
                  clear hr
                  go_wp2_with fail
                  refine (Bld.len_any bb r wr HI.out).mono ?_
                  rintro e w3 ⟨rfl, rfl⟩
                  go_wp2_with fail
                  refine (Bld.string_any bb r _ HI.out (by omega)).mono ?_
                  rintro e w4 ⟨rfl, i4, k4⟩
                  have W4 := Lib.hid (k4.heldOf HH.out hb0.out)
                  clear i4 k4
                  go_wp2
                  go_ret2
                  exact EncTo.mk (by rw [HE.out]) W4.out
          · have HE := Lib.hid (enc_order HN.out HA.out ho)
            clear ho
            go_wp2
            go_ret2
            exact EncTo.mk HE.out HH.out
end Enc
end Go.Proofs.YthpjbffhdaaibaaGreat

set_option linter.unusedVariables false
namespace Go.Proofs.YthpjbffhdaaibaaGreat
open Go.RowKit
theorem flat_set {α : Type} {s : Nat} {f : α → List Value} (hf : ∀ x, (f x).length = s) : ∀ (L : List α) (k : Nat) (hk : k < L.length) (i : Nat) (u : Value) (x : α), i < s → f x = (f L[k]).set i u → (L.set k x).flatMap f = (L.flatMap f).set (k * s + i) u
  | [], k, hk, _, _, _, _, _ => by simp at hk
  | y :: L, 0, hk, i, u, x, hi, hx => by
    simp only [List.set_cons_zero, List.flatMap_cons, Nat.zero_mul, Nat.zero_add]
    rw [List.set_append, if_pos (by rw [hf]; exact hi)]
    congr 1
  | y :: L, k + 1, hk, i, u, x, hi, hx => by
    have hk' : k < L.length := by simpa using hk
    simp only [List.set_cons_succ, List.flatMap_cons]
    rw [flat_set hf L k hk' i u x hi (by simpa using hx), List.set_append, if_neg (by rw [hf, Nat.add_mul]; omega), hf]
    congr 2
    rw [Nat.add_mul]; omega
/-- The block of a row of the call's own that is not empty, and each of its cells. -/
theorem Own.slot {α : Type} {e : TypeId} {s : Nat} {f : α → List Value} (hf : ∀ x, (f x).length = s) {base : Nat} {w : World} {A : Option Addr} {n cap : Nat} {L : List α} (h : Own e s f base w (.slice A n cap) L) (hs : 0 < s) {k : Nat} (hk : k < L.length) :
    ∃ g, A = some ⟨g, 0, none⟩ ∧ base ≤ g ∧ g < w.heap.size ∧ ∀ i, i < s → w.frozen? ⟨g, k * s + i, none⟩ = false ∧ ∀ v, (f L[k])[i]? = some v → w.cell? ⟨g, k * s + i, none⟩ = some v := by
  have hfl : (L.flatMap f).length = L.length * s := flat_len hf L
  rcases h.2 with ⟨he, h0⟩ | ⟨g, cp, cur, he, q1, q2, q3, q4, q5, q6⟩
  · omega
  · injection he with e1 e2 e3
    subst e1
    refine ⟨g, rfl, q1, (Array.getElem?_eq_some_iff.1 q2).1, fun i hi => ⟨by simp [World.frozen?, q2], fun v hv => ?_⟩⟩
    have hfa := flat_at hf L k hk i hi
    rw [hv] at hfa
    have hlt : k * s + i < L.length * s := by
      have := (List.getElem?_eq_some_iff.1 hfa).1
      omega
    rw [← q6, List.getElem?_take, if_pos (by exact hlt)] at hfa
    simp only [World.cell?, q2]
    simpa using hfa
/-- A cell of such a row, stored. -/
theorem Own.put {α : Type} {e : TypeId} {s : Nat} {f : α → List Value} (hf : ∀ x, (f x).length = s) {base : Nat} {w : World} {g n cap : Nat} {L : List α} (h : Own e s f base w (.slice (some ⟨g, 0, none⟩) n cap) L) {k : Nat} (hk : k < L.length) {i : Nat} (hi : i < s) (u : Value) (x : α)
    (hx : f x = (f L[k]).set i u) : Own e s f base (w.setCell ⟨g, k * s + i, none⟩ u) (.slice (some ⟨g, 0, none⟩) n cap) (L.set k x) := by
  have hfl : (L.flatMap f).length = L.length * s := flat_len hf L
  refine ⟨by rw [List.length_set]; exact flat_len hf _ |>.trans (by rw [List.length_set]), .inr ?_⟩
  rcases h.2 with ⟨he, h0⟩ | ⟨g', cp, cur, he, q1, q2, q3, q4, q5, q6⟩
  · cases he
  · injection he with e1 e2 e3
    injection e1 with e1
    injection e1 with e1
    subst e1 e2 e3
    refine ⟨g, cap, cur.setIfInBounds (k * s + i) u, ?_, q1, ?_, ?_, q4, ?_, ?_⟩
    · rw [List.length_set]
    · simp only [World.setCell]
      rw [Array.getElem?_modify, if_pos rfl, q2]; rfl
    · rw [List.length_set]; exact q3
    · rw [Array.size_setIfInBounds]; exact q5
    · rw [flat_set hf L k hk i u x hi hx, ← q6, List.length_set, Array.toList_setIfInBounds, List.take_set]
/-- A row is not touched by a store elsewhere. -/
theorem Own.far {α : Type} {e : TypeId} {s : Nat} {f : α → List Value} {base : Nat} {w : World} {v : Value} {L : List α} (h : Own e s f base w v L) {c j : Nat} {u : Value} (hc : v.ownBlock ≠ some c) : Own e s f base (w.setCell ⟨c, j, none⟩ u) v L := by
  refine ⟨h.1, h.2.imp id ?_⟩
  rintro ⟨g, cp, cur, rfl, q1, q2, q3⟩
  refine ⟨g, cp, cur, rfl, q1, ?_, q3⟩
  simp only [World.setCell]
  rw [Array.getElem?_modify, if_neg (fun e => hc (by rw [e]; rfl))]
  exact q2
end Go.Proofs.YthpjbffhdaaibaaGreat

set_option linter.unusedVariables false
namespace Go.Proofs.YthpjbffhdaaibaaGreat
open Go.RowKit
/-- A piece of memory: its blocks, and what holds of them. -/
structure Ck where
  bs : List Nat
  P : World → Prop
  loc : ∀ {w w' : World}, (∀ b ∈ bs, w'.heap[b]? = w.heap[b]?) → P w → P w'
  lt : ∀ {w : World}, P w → ∀ b ∈ bs, b < w.heap.size
theorem lt_of_heap {w : World} {b : Nat} {o : Obj} (h : w.heap[b]? = some o) : b < w.heap.size := (Array.getElem?_eq_some_iff.1 h).1
/-- A box: a block known whole. -/
def Ck.box (b : Nat) (cs : Array Value) (t : TypeId) : Ck :=
  ⟨[b], fun w => w.heap[b]? = some (.cells cs t (0, 0)), fun h p => (h b (by simp)).trans p, fun p b' hb => by simp at hb; subst hb; exact lt_of_heap p⟩
theorem Own.loc {α : Type} {e : TypeId} {s : Nat} {f : α → List Value} {base : Nat} {w w' : World} {v : Value} {L : List α} (h : Own e s f base w v L) (hk : ∀ b ∈ v.ownBlock.toList, w'.heap[b]? = w.heap[b]?) : Own e s f base w' v L := by
  refine ⟨h.1, h.2.imp id ?_⟩
  rintro ⟨g, cp, cur, rfl, q1, q2, q3⟩
  exact ⟨g, cp, cur, rfl, q1, (hk g (by simp [Value.ownBlock])).trans q2, q3⟩
/-- A row of the call's own. -/
def Ck.row {α : Type} (e : TypeId) (s : Nat) (f : α → List Value) (base : Nat) (v : Value) (L : List α) : Ck :=
  ⟨v.ownBlock.toList, fun w => Own e s f base w v L, fun h p => Own.loc p h, fun p b hb => (World.ownsRow.lt p b (by simpa using hb)).2⟩
/-- A piece of any kind in one block. -/
def Ck.one (b : Nat) (Q : Obj → Prop) : Ck := ⟨[b], fun w => ∃ o, w.heap[b]? = some o ∧ Q o, fun h p => by obtain ⟨o, ho, hq⟩ := p; exact ⟨o, (h b (by simp)).trans ho, hq⟩, fun p b' hb => by obtain ⟨o, ho, _⟩ := p; simp at hb; subst hb; exact lt_of_heap ho⟩
/-- The cells of a block that was just made. -/
theorem cells_new (w : World) {b : Nat} (hb : w.heap.size = b) (cs : Array Value) (t : TypeId) : ∀ j u, cs.toList[j]? = some u → (w.alloc (.cells cs t)).cell? ((⟨b, 0, none⟩ : Addr).add j) = some u := by
  intro j u hu
  subst hb
  have hn := heap_alloc_new w (.cells cs t)
  rw [addr_add]
  simp only [World.cell?, hn, Nat.zero_add]
  simpa using hu
/-- The cells that make lays. -/
theorem made_flat {α : Type} {s : Nat} {f : α → List Value} (hf : ∀ x, (f x).length = s) (hs : 0 < s) (x0 : α) (z : Value) (hz : z.cells.toList = f x0) (n : Nat) : (madeCells z.cells (n * s)).toList = (List.replicate n x0).flatMap f := by
  have hzs : z.cells.size = s := by rw [← hf x0, ← hz]; simp
  refine List.ext_getElem? fun j => ?_
  by_cases hj : j < n * s
  · have hk : j / s < n := Nat.div_lt_of_lt_mul (by rw [Nat.mul_comm]; exact hj)
    have hr : j % s < s := Nat.mod_lt _ hs
    have e : (j / s) * s + j % s = j := by rw [Nat.mul_comm]; exact Nat.div_add_mod j s
    have h1 := flat_at hf (List.replicate n x0) (j / s) (by simpa using hk) (j % s) hr
    rw [e] at h1
    rw [h1, List.getElem_replicate, ← hz, madeCells]
    simp only [Array.toList_map, Array.toList_range, hzs, List.getElem?_map]
    rw [List.getElem?_range hj]
    simp [getElem!_pos, hzs, hr]
  · rw [List.getElem?_eq_none (by simp [size_madeCells]; omega), List.getElem?_eq_none (by rw [flat_len hf, List.length_replicate]; omega)]
/-- What the call has: the world in which it began is kept; the pieces, apart from each other. -/
structure Mem (W w : World) (H : List Ck) : Prop where
  held : Held W w
  ok : ∀ c ∈ H, c.P w ∧ ∀ b ∈ c.bs, W.heap.size ≤ b
  sep : H.Pairwise fun c d => ∀ b ∈ c.bs, b ∉ d.bs
namespace Mem
variable {W w w' : World} {H : List Ck}
theorem start (W : World) : Mem W W [] := ⟨Held.refl W, fun c h => by simp at h, List.Pairwise.nil⟩
theorem of (h : Held W w) : Mem W w [] := ⟨h, fun c h => by simp at h, List.Pairwise.nil⟩
theorem le (h : Mem W w H) : W.heap.size ≤ w.heap.size := h.held.le
theorem keep (h : Mem W w H) (k : Held w w') : Mem W w' H :=
  ⟨h.held.step k, fun c hc => ⟨c.loc (fun b hb => k.block b (c.lt (h.ok c hc).1 b hb)) (h.ok c hc).1, (h.ok c hc).2⟩, h.sep⟩
theorem get (h : Mem W w H) {i : Nat} {c : Ck} (hi : H[i]? = some c) : c.P w := (h.ok c (List.mem_of_getElem? hi)).1
theorem ge (h : Mem W w H) {i : Nat} {c : Ck} (hi : H[i]? = some c) : ∀ b ∈ c.bs, W.heap.size ≤ b := (h.ok c (List.mem_of_getElem? hi)).2
theorem apart (h : Mem W w H) {i j : Nat} {c d : Ck} (hi : H[i]? = some c) (hj : H[j]? = some d) (hij : i ≠ j) : ∀ b ∈ c.bs, b ∉ d.bs := by
  obtain ⟨li, rfl⟩ := List.getElem?_eq_some_iff.1 hi
  obtain ⟨lj, rfl⟩ := List.getElem?_eq_some_iff.1 hj
  rcases Nat.lt_or_ge i j with hl | hl
  · exact List.pairwise_iff_getElem.1 h.sep i j li lj hl
  · intro b hb hb'
    exact List.pairwise_iff_getElem.1 h.sep j i lj li (by omega) b hb' hb
/-- A new piece. -/
theorem new (h : Mem W w H) (k : Held w w') (c : Ck) (hp : c.P w') (hb : ∀ b ∈ c.bs, w.heap.size ≤ b) : Mem W w' (H ++ [c]) := by
  have hk := h.keep k
  refine ⟨hk.held, fun d hd => ?_, ?_⟩
  · rcases List.mem_append.1 hd with hd | hd
    · exact hk.ok d hd
    · rw [List.mem_singleton] at hd
      subst hd
      exact ⟨hp, fun b hb' => Nat.le_trans h.le (hb b hb')⟩
  · refine List.pairwise_append.2 ⟨h.sep, List.pairwise_singleton _ _, fun d hd d' hd' b hb1 hb2 => ?_⟩
    rw [List.mem_singleton] at hd'
    subst hd'
    have := d.lt (h.ok d hd).1 b hb1
    have := hb b hb2
    omega
/-- One piece has turned into another, in its own blocks or in new ones; nothing else has turned. -/
theorem upd (h : Mem W w H) {i : Nat} {c : Ck} (hi : H[i]? = some c) (c' : Ck) (h0 : Below 0 w w') (hk : ∀ b, b < w.heap.size → b ∉ c.bs → w'.heap[b]? = w.heap[b]?) (hp : c'.P w') (hb : ∀ b ∈ c'.bs, b ∈ c.bs ∨ w.heap.size ≤ b) : Mem W w' (H.set i c') := by
  obtain ⟨li, rfl⟩ := List.getElem?_eq_some_iff.1 hi
  have hge := h.ge hi
  refine ⟨h.held.trans ⟨h0.os, h0.tape, h0.output, h0.size, fun k hkk => hk k (Nat.lt_of_lt_of_le hkk h.le) (fun hm => by have := hge k hm; omega)⟩, fun d hd => ?_, ?_⟩
  · obtain ⟨j, hj, rfl⟩ := List.mem_iff_getElem.1 hd
    rw [List.getElem_set]
    have hj' : j < H.length := by simpa using hj
    by_cases hij : i = j
    · rw [if_pos hij]
      refine ⟨hp, fun b hb' => ?_⟩
      rcases hb b hb' with hm | hm
      · exact hge b hm
      · exact Nat.le_trans h.le hm
    · rw [if_neg hij]
      have hd' := h.ok H[j] (List.getElem_mem hj')
      refine ⟨H[j].loc (fun b hb' => hk b (H[j].lt hd'.1 b hb') (h.apart (i := j) (j := i) (List.getElem?_eq_getElem hj') hi (fun e => hij e.symm) b hb')) hd'.1, hd'.2⟩
  · rw [List.pairwise_iff_getElem]
    intro p q hp1 hq1 hpq b hb1 hb2
    rw [List.getElem_set] at hb1 hb2
    have hp2 : p < H.length := by simpa using hp1
    have hq2 : q < H.length := by simpa using hq1
    have hlt : ∀ (m : Nat) (hm : m < H.length), b ∈ H[m].bs → b < w.heap.size := fun m hm => H[m].lt (h.ok H[m] (List.getElem_mem hm)).1 b
    by_cases h1 : i = p
    · rw [if_pos h1] at hb1
      rw [if_neg (by omega)] at hb2
      rcases hb b hb1 with hm | hm
      · exact h.apart hi (List.getElem?_eq_getElem hq2) (by omega) b hm hb2
      · have := hlt q hq2 hb2; omega
    · rw [if_neg h1] at hb1
      by_cases h2 : i = q
      · rw [if_pos h2] at hb2
        rcases hb b hb2 with hm | hm
        · exact h.apart (List.getElem?_eq_getElem hp2) hi (by omega) b hb1 hm
        · have := hlt p hp2 hb1; omega
      · rw [if_neg h2] at hb2
        exact h.apart (List.getElem?_eq_getElem hp2) (List.getElem?_eq_getElem hq2) (by omega) b hb1 hb2
/-- A list of pieces that are all among these. -/
theorem sub (h : Mem W w H) {H' : List Ck} (hs : H'.Sublist H) : Mem W w H' := ⟨h.held, fun c hc => h.ok c (hs.subset hc), h.sep.sublist hs⟩
theorem take (h : Mem W w H) (n : Nat) : Mem W w (H.take n) := h.sub (List.take_sublist n H)
-- boxes
theorem alloc (h : Mem W w H) (cs : Array Value) (t : TypeId) : Mem W (w.alloc (.cells cs t)) (H ++ [.box w.heap.size cs t]) :=
  h.new ((Held.refl w).alloc _) _ (heap_alloc_new w _) (fun b hb => by simp [Ck.box] at hb; omega)
theorem alloc' (h : Mem W w H) {b : Nat} (hb : w.heap.size = b) (cs : Array Value) (t : TypeId) : Mem W (w.alloc (.cells cs t)) (H ++ [.box b cs t]) := hb ▸ h.alloc cs t
theorem skip (h : Mem W w H) (o : Obj) : Mem W (w.alloc o) H := h.keep ((Held.refl w).alloc o)
theorem drew (h : Mem W w H) : Mem W w.drew H := h.keep (Held.refl w).drew
theorem put (h : Mem W w H) (i : Nat) {b : Nat} {cs : Array Value} {t : TypeId} (hi : H[i]? = some (.box b cs t)) (j : Nat) (v : Value) : Mem W (w.setCell ⟨b, j, none⟩ v) (H.set i (.box b (cs.setIfInBounds j v) t)) := by
  refine h.upd hi _ ((Below.refl 0 w).setCell (Nat.zero_le _) v) (fun b' _ hb' => Below.heap_setCell w _ _ _ (by simpa [Ck.box] using hb')) ?_ (fun b' hb' => .inl hb')
  have := h.get hi
  simp only [Ck.box] at this ⊢
  simp only [World.setCell]
  rw [Array.getElem?_modify, if_pos rfl, this]; rfl
theorem blk (h : Mem W w H) (i : Nat) {b : Nat} {cs : Array Value} {t : TypeId} (hi : H[i]? = some (.box b cs t)) : w.heap[b]? = some (.cells cs t (0, 0)) := h.get hi
theorem cell (h : Mem W w H) (i : Nat) {b : Nat} {cs : Array Value} {t : TypeId} (hi : H[i]? = some (.box b cs t)) (j : Nat) {v : Value} (hv : cs[j]? = some v) : w.cell? ⟨b, j, none⟩ = some v := by
  have := h.blk i hi
  simp [World.cell?, this, hv]
theorem free (h : Mem W w H) (i : Nat) {b : Nat} {cs : Array Value} {t : TypeId} (hi : H[i]? = some (.box b cs t)) (j : Nat) : w.frozen? ⟨b, j, none⟩ = false := by
  have := h.blk i hi
  simp [World.frozen?, this]
theorem lt (h : Mem W w H) (i : Nat) {b : Nat} {cs : Array Value} {t : TypeId} (hi : H[i]? = some (.box b cs t)) : b < w.heap.size := lt_of_heap (h.blk i hi)
theorem geb (h : Mem W w H) (i : Nat) {b : Nat} {cs : Array Value} {t : TypeId} (hi : H[i]? = some (.box b cs t)) : W.heap.size ≤ b := h.ge hi b (by simp [Ck.box])
theorem ne (h : Mem W w H) (i j : Nat) {b b' : Nat} {cs cs' : Array Value} {t t' : TypeId} (hi : H[i]? = some (.box b cs t)) (hj : H[j]? = some (.box b' cs' t')) (hij : i ≠ j) : b ≠ b' := fun e => h.apart hi hj hij b (by simp [Ck.box]) (by simp [Ck.box, e])
section
variable {b : Nat} {t : TypeId} {x0 x1 x2 x3 x4 x5 x6 x7 : Value}
theorem box1 (h : Mem W w H) (i : Nat) (hi : H[i]? = some (.box b #[x0] t)) : w.cell? ⟨b, 0, none⟩ = some x0 ∧ w.frozen? ⟨b, 0, none⟩ = false ∧ b < w.heap.size := ⟨h.cell i hi 0 rfl, h.free i hi 0, h.lt i hi⟩
theorem box2 (h : Mem W w H) (i : Nat) (hi : H[i]? = some (.box b #[x0, x1] t)) : (w.cell? ⟨b, 0, none⟩ = some x0 ∧ w.cell? ⟨b, 1, none⟩ = some x1) ∧ (w.frozen? ⟨b, 0, none⟩ = false ∧ w.frozen? ⟨b, 1, none⟩ = false) ∧ b < w.heap.size := ⟨⟨h.cell i hi 0 rfl, h.cell i hi 1 rfl⟩, ⟨h.free i hi 0, h.free i hi 1⟩, h.lt i hi⟩
theorem box3 (h : Mem W w H) (i : Nat) (hi : H[i]? = some (.box b #[x0, x1, x2] t)) : (w.cell? ⟨b, 0, none⟩ = some x0 ∧ w.cell? ⟨b, 1, none⟩ = some x1 ∧ w.cell? ⟨b, 2, none⟩ = some x2) ∧ (w.frozen? ⟨b, 0, none⟩ = false ∧ w.frozen? ⟨b, 1, none⟩ = false ∧ w.frozen? ⟨b, 2, none⟩ = false) ∧ b < w.heap.size := ⟨⟨h.cell i hi 0 rfl, h.cell i hi 1 rfl, h.cell i hi 2 rfl⟩, ⟨h.free i hi 0, h.free i hi 1, h.free i hi 2⟩, h.lt i hi⟩
theorem box4 (h : Mem W w H) (i : Nat) (hi : H[i]? = some (.box b #[x0, x1, x2, x3] t)) : (w.cell? ⟨b, 0, none⟩ = some x0 ∧ w.cell? ⟨b, 1, none⟩ = some x1 ∧ w.cell? ⟨b, 2, none⟩ = some x2 ∧ w.cell? ⟨b, 3, none⟩ = some x3) ∧ (w.frozen? ⟨b, 0, none⟩ = false ∧ w.frozen? ⟨b, 1, none⟩ = false ∧ w.frozen? ⟨b, 2, none⟩ = false ∧ w.frozen? ⟨b, 3, none⟩ = false) ∧ b < w.heap.size := ⟨⟨h.cell i hi 0 rfl, h.cell i hi 1 rfl, h.cell i hi 2 rfl, h.cell i hi 3 rfl⟩, ⟨h.free i hi 0, h.free i hi 1, h.free i hi 2, h.free i hi 3⟩, h.lt i hi⟩
theorem box5 (h : Mem W w H) (i : Nat) (hi : H[i]? = some (.box b #[x0, x1, x2, x3, x4] t)) : (w.cell? ⟨b, 0, none⟩ = some x0 ∧ w.cell? ⟨b, 1, none⟩ = some x1 ∧ w.cell? ⟨b, 2, none⟩ = some x2 ∧ w.cell? ⟨b, 3, none⟩ = some x3 ∧ w.cell? ⟨b, 4, none⟩ = some x4) ∧ (w.frozen? ⟨b, 0, none⟩ = false ∧ w.frozen? ⟨b, 1, none⟩ = false ∧ w.frozen? ⟨b, 2, none⟩ = false ∧ w.frozen? ⟨b, 3, none⟩ = false ∧ w.frozen? ⟨b, 4, none⟩ = false) ∧ b < w.heap.size := ⟨⟨h.cell i hi 0 rfl, h.cell i hi 1 rfl, h.cell i hi 2 rfl, h.cell i hi 3 rfl, h.cell i hi 4 rfl⟩, ⟨h.free i hi 0, h.free i hi 1, h.free i hi 2, h.free i hi 3, h.free i hi 4⟩, h.lt i hi⟩
end
-- rows
section
variable {α : Type} {e : TypeId} {s : Nat} {f : α → List Value} {base : Nat}
theorem row (h : Mem W w H) (i : Nat) {v : Value} {L : List α} (hi : H[i]? = some (.row e s f base v L)) : Own e s f base w v L := h.get hi
/-- A row that a call has handed back. -/
theorem own (h : Mem W w H) (k : Held w w') {v : Value} {L : List α} (o : Own e s f w.heap.size w' v L) : Mem W w' (H ++ [.row e s f W.heap.size v L]) :=
  h.new k _ (Own.mono o h.le) (fun b hb => (World.ownsRow.lt o b (by simpa [Ck.row] using hb)).1)
theorem nilRow (h : Mem W w H) : Mem W w (H ++ [.row e s f W.heap.size (.slice none 0 0) []]) :=
  h.new (Held.refl w) _ (Own.nil w) (fun b hb => by simp [Ck.row, Value.ownBlock] at hb)
theorem neRow (h : Mem W w H) (i j : Nat) {b : Nat} {cs : Array Value} {t : TypeId} {v : Value} {L : List α} (hi : H[i]? = some (.box b cs t)) (hj : H[j]? = some (.row e s f base v L)) (hij : i ≠ j) : v.ownBlock ≠ some b := fun q => h.apart hi hj hij b (by simp [Ck.box]) (by simp [Ck.row, q])
theorem putRow (h : Mem W w H) (i : Nat) {g n cap : Nat} {L : List α} (hi : H[i]? = some (.row e s f base (.slice (some ⟨g, 0, none⟩) n cap) L)) (hf : ∀ x, (f x).length = s) {k : Nat} (hk : k < L.length) {j : Nat} (hj : j < s) (u : Value) (x : α) (hx : f x = (f L[k]).set j u) :
    Mem W (w.setCell ⟨g, k * s + j, none⟩ u) (H.set i (.row e s f base (.slice (some ⟨g, 0, none⟩) n cap) (L.set k x))) := by
  refine h.upd hi _ ((Below.refl 0 w).setCell (Nat.zero_le _) u) (fun b' _ hb' => Below.heap_setCell w _ _ _ (by simpa [Ck.row, Value.ownBlock] using hb')) ?_ (fun b' hb' => .inl hb')
  exact Own.put hf (h.row i hi) hk hj u x hx
/-- An element of a row: its value, its cells. -/
theorem slot (h : Mem W w H) (i : Nat) {A : Option Addr} {n cap : Nat} {L : List α} (hi : H[i]? = some (.row e s f base (.slice A n cap) L)) (hf : ∀ x, (f x).length = s) (hs : 0 < s) {k : Nat} (hk : k < L.length) :
    ∃ g x, A = some ⟨g, 0, none⟩ ∧ W.heap.size ≤ g ∧ g < w.heap.size ∧ L[k]? = some x ∧ ∀ j, j < s → w.frozen? ⟨g, k * s + j, none⟩ = false ∧ ∀ v, (f x)[j]? = some v → w.cell? ⟨g, k * s + j, none⟩ = some v := by
  obtain ⟨g, hA, _, h2, h3⟩ := Own.slot hf (h.row i hi) hs hk
  exact ⟨g, L[k], hA, h.ge hi g (by simp [Ck.row, Value.ownBlock, hA]), h2, List.getElem?_eq_getElem hk, h3⟩
theorem putAt (h : Mem W w H) (i : Nat) {g n cap : Nat} {L : List α} (hi : H[i]? = some (.row e s f base (.slice (some ⟨g, 0, none⟩) n cap) L)) (hf : ∀ x, (f x).length = s) {k : Nat} {y : α} (hk : L[k]? = some y) {j : Nat} (hj : j < s) (u : Value) (x : α) (hx : f x = (f y).set j u) :
    Mem W (w.setCell ⟨g, k * s + j, none⟩ u) (H.set i (.row e s f base (.slice (some ⟨g, 0, none⟩) n cap) (L.set k x))) := by
  obtain ⟨hlt, rfl⟩ := List.getElem?_eq_some_iff.1 hk
  exact h.putRow i hi hf hlt hj u x hx
/-- What an append leaves. -/
theorem app (h : Mem W w H) (i : Nat) {v v' : Value} {L L' : List α} (hi : H[i]? = some (.row e s f base v L)) (hg : w.grownBy w' v.ownBlock) (ho : Own e s f base w' v' L') (hb : ∀ b, v'.ownBlock = some b → v.ownBlock = some b ∨ w.heap.size ≤ b) : Mem W w' (H.set i (.row e s f base v' L')) := by
  refine h.upd hi _ ⟨hg.os, hg.tape, hg.output, hg.size, fun k hk => by omega⟩ (fun b hlt hb' => hg.block b hlt (fun q => hb' (by simp [Ck.row, ← q]))) ho (fun b hb' => ?_)
  simp only [Ck.row, Option.mem_toList] at hb' ⊢
  exact hb b hb'
/-- A slice that make lays. -/
theorem wp_make (h : Mem W w H) {P : Program} {ops : Array Oper} {rest : List Oper} {o : Oper} {a : Act} {Q : Exit → Act → World → Prop} (hgd : o.guard = none) (l c : Operand) (t : TypeId) (hop : o.op = Op.makeSlice t l c)
    (z : Value) (bytes : Nat) (ht : P.underlying t = some (.slice e)) (hinfo : (P.info? e).map (fun i => (i.zero, i.size, i.bytes)) = some (some z, s, bytes)) (x0 : α) (hs0 : 0 < s) (hf : ∀ x, (f x).length = s) (hz : z.cells.toList = f x0)
    (kl kc : IntKind) (LL C : Int) (n : Nat) (hl : a.eval l = .int kl LL) (hc : a.eval c = .int kc C) (hL : LL = (n : Int)) (hC : C = (n : Int)) (hb : bytes * n ≤ 281474976710656) (hm : n ≤ maxLen)
    (k : ∀ w', Mem W w' (H ++ [.row e s f W.heap.size (.slice (some ⟨w.heap.size, 0, none⟩) n n) (List.replicate n x0)]) → Held w w' → wpList P ops Q rest (a.put o.dst (.slice (some ⟨w.heap.size, 0, none⟩) n n)) w') :
    wpList P ops Q (o :: rest) a w := by
  obtain ⟨i0, hi, hz0, hz1, hz2⟩ := info_parts hinfo
  refine wpList_make_full w hgd l c t hop w.heap.size e i0 z s ht hi hz0 hz1 kl kc LL C n hl hc hL hC (by rw [hz2]; exact hb) hm (Nat.le_refl _) ?_
  intro w' h1 h2
  have hh : Held w w' := ⟨h2.os, h2.tape, h2.output, h2.size, fun k hk => h2.block k hk (by simp)⟩
  refine k w' (h.own hh ?_) hh
  unfold Own
  rw [List.length_replicate, ← made_flat hf hs0 x0 z hz n]
  exact h1
/-- An append of one element to a row of the call's own. -/
theorem wp_app (h : Mem W w H) (i : Nat) {v : Value} {L : List α} (hi : H[i]? = some (.row e s f W.heap.size v L)) {P : Program} {ops : Array Oper} {rest : List Oper} {o : Oper} {a : Act} {Q : Exit → Act → World → Prop} (hgd : o.guard = none) (sl x : Operand) (t : TypeId)
    (ho : o.op = .call { callee := .builtin .append, args := #[sl, x], argTypes := #[t, t] }) (z : Value) (bytes : Nat) (ht : P.underlying t = some (.slice e)) (hinfo : (P.info? e).map (fun i => (i.zero, i.size, i.bytes)) = some (some z, s, bytes))
    (hzs : z.cells.size = s) (hs0 : 0 < s) (hf : ∀ x, (f x).length = s) (hf1 : ∀ x, ∀ u ∈ f x, u.oneCell' = true) (d : α) (ad : Addr) (c : Nat)
    (hs : a.eval sl = v) (hx : a.eval x = .slice (some ad) 1 c) (hnews : ∀ j u, (f d)[j]? = some u → w.cell? (ad.add j) = some u)
    (n : Nat) (hn : L.length = n) (hb : (n + 1) * bytes ≤ 140737488355328) (hb1 : 1 ≤ bytes)
    (k : ∀ g cap w', Mem W w' (H.set i (.row e s f W.heap.size (.slice (some ⟨g, 0, none⟩) (n + 1) cap) (L ++ [d]))) → wpList P ops Q rest (a.put o.dst (.slice (some ⟨g, 0, none⟩) (n + 1) cap)) w') :
    wpList P ops Q (o :: rest) a w := by
  subst hn
  refine Own.app w hgd sl x t ho z bytes ht hinfo hzs hs0 hf hf1 W.heap.size v L d ad c hs (h.row i hi) hx hnews hb hb1 h.le ?_
  intro g cap w' h1 h2 h3 h4
  refine k g cap w' (h.app i hi h2 h1 (fun b hb' => ?_))
  simp only [Value.ownBlock] at hb'
  injection hb' with hb'
  subst hb'
  rcases h3 with h3 | h3
  · exact .inl h3
  · exact .inr (by omega)
end
end Mem
end Go.Proofs.YthpjbffhdaaibaaGreat

set_option linter.unusedVariables false
namespace Go.Proofs.YthpjbffhdaaibaaGreat
open Go.RowKit
namespace Mem
variable {W w w' : World} {H : List Ck}
/-- Some of the pieces, in another order. -/
theorem pick (h : Mem W w H) (is : List Nat) (hd : is.Nodup) {H' : List Ck} (hH : is.map (fun i => H[i]?) = H'.map some) : Mem W w H' := by
  have hlen : is.length = H'.length := by have := congrArg List.length hH; simpa using this
  have hat : ∀ p (h1 : p < is.length) (h2 : p < H'.length), H[is[p]]? = some H'[p] := fun p h1 h2 => by
    have := congrArg (fun l => l[p]?) hH
    simp only [List.getElem?_map, List.getElem?_eq_getElem h1, List.getElem?_eq_getElem h2, Option.map_some] at this
    injection this
  refine ⟨h.held, fun c hc => ?_, List.pairwise_iff_getElem.2 fun p q hp hq hpq => ?_⟩
  · obtain ⟨p, hp, rfl⟩ := List.mem_iff_getElem.1 hc
    have := hat p (by omega) hp
    exact ⟨h.get this, h.ge this⟩
  · refine h.apart (hat p (by omega) hp) (hat q (by omega) hq) fun e => ?_
    have := List.pairwise_iff_getElem.1 hd p q (by omega) (by omega) hpq
    exact this e
theorem sel (h : Mem W w H) (is : List Nat) (hd : is.Nodup) : Mem W w (is.filterMap fun i => H[i]?) := by
  have key : ∀ l : List Nat, l.Sublist is → ∀ H', l.filterMap (fun i => H[i]?) = H' → (∀ c ∈ H', ∃ i ∈ l, H[i]? = some c) ∧ (l.Nodup → H'.Pairwise fun c d => ∀ b ∈ c.bs, b ∉ d.bs) := by
    intro l
    induction l with
    | nil => rintro _ H' rfl; exact ⟨by simp, fun _ => by simp⟩
    | cons i l ih =>
      intro hs H' hH
      subst hH
      obtain ⟨h1, h2⟩ := ih (List.Sublist.trans (List.sublist_cons_self i l) hs) _ rfl
      cases hi : H[i]? with
      | none =>
        rw [List.filterMap_cons_none hi]
        exact ⟨fun c hc => by obtain ⟨j, hj, e⟩ := h1 c hc; exact ⟨j, List.mem_cons_of_mem _ hj, e⟩, fun hn => h2 (List.nodup_cons.1 hn).2⟩
      | some c =>
        rw [List.filterMap_cons_some hi]
        refine ⟨fun d hd' => ?_, fun hn => List.pairwise_cons.2 ⟨fun d hd' => ?_, h2 (List.nodup_cons.1 hn).2⟩⟩
        · rcases List.mem_cons.1 hd' with rfl | hd'
          · exact ⟨i, List.mem_cons_self, hi⟩
          · obtain ⟨j, hj, e⟩ := h1 d hd'; exact ⟨j, List.mem_cons_of_mem _ hj, e⟩
        · obtain ⟨j, hj, e⟩ := h1 d hd'
          exact h.apart hi e (fun q => (List.nodup_cons.1 hn).1 (q ▸ hj))
  obtain ⟨h1, h2⟩ := key is (List.Sublist.refl _) _ rfl
  exact ⟨h.held, fun c hc => by obtain ⟨i, _, e⟩ := h1 c hc; exact ⟨h.get e, h.ge e⟩, h2 hd⟩
end Mem
end Go.Proofs.YthpjbffhdaaibaaGreat

set_option linter.unusedVariables false
namespace Go.Proofs.YthpjbffhdaaibaaGreat
open Go.RowKit
namespace Mem
variable {W w w' : World} {H : List Ck}
section
variable {α : Type} {e : TypeId} {s : Nat} {f : α → List Value}
theorem emptyRow (h : Mem W w H) {b : Nat} (hb : w.heap.size = b) : Mem W (w.alloc (.cells #[] e)) (H ++ [.row e s f W.heap.size (.slice (some ⟨b, 0, none⟩) 0 0) ([] : List α)]) := by
  subst hb
  exact h.own ((Held.refl w).alloc _) (Own.empty (Nat.le_refl _))
theorem app_run (h : Mem W w H) (i : Nat) {v : Value} {L : List α} (hi : H[i]? = some (.row e s f W.heap.size v L)) {P : Program} (ty t : TypeId) (z : Value) (bytes : Nat) (ht : P.underlying t = some (.slice e)) (hinfo : (P.info? e).map (fun i => (i.zero, i.size, i.bytes)) = some (some z, s, bytes))
    (hzs : z.cells.size = s) (hs0 : 0 < s) (hf : ∀ x, (f x).length = s) (hf1 : ∀ x, ∀ u ∈ f x, u.oneCell' = true) (M : List α) (ad : Addr) (m c : Nat)
    (hm : M.length = m) (hm0 : 0 < m) (hnews : ∀ j u, (M.flatMap f)[j]? = some u → w.cell? (ad.add j) = some u)
    (n : Nat) (hn : L.length = n) (hb : (n + m) * bytes ≤ 140737488355328) (hb1 : 1 ≤ bytes) :
    ∃ g cap w', (Builtin.append_ #[t, t] ty #[v, .slice (some ad) m c]).run P w = .ok (.slice (some ⟨g, 0, none⟩) (n + m) cap) w' ∧ Mem W w' (H.set i (.row e s f W.heap.size (.slice (some ⟨g, 0, none⟩) (n + m) cap) (L ++ M))) := by
  subst hn hm
  obtain ⟨i0, hi0, hz0, hz1, hz2⟩ := info_parts hinfo
  have hlen : L.length + M.length ≤ 140737488355328 := Nat.le_trans (Nat.le_mul_of_pos_right _ hb1) hb
  obtain ⟨g, cap, w', hr, h2, h3, h4, h5⟩ := run_append_lies (P := P) w t ty W.heap.size e i0 z s bytes ht hi0 hz0 hz1 hz2 hzs hs0 v L.length (L.flatMap f) (h.row i hi) ad M.length c (M.flatMap f) (flat_len hf M) hnews (fun u hu => by
    rw [List.mem_flatMap] at hu
    obtain ⟨y, _, hy⟩ := hu
    exact hf1 y u hy) hm0 (by unfold maxLen; omega) hb h.le w.heap.size rfl
  refine ⟨g, cap, w', hr, h.app i hi h3 ?_ (fun b hb' => ?_)⟩
  · unfold Own
    rw [List.flatMap_append, List.length_append]
    exact h2
  · simp only [Value.ownBlock] at hb'
    injection hb' with hb'
    subst hb'
    exact h4.imp id (fun h => by omega)
/-- Append of a list, at a step of a region that draws its order. -/
theorem step_apps (h : Mem W w H) (i : Nat) {v : Value} {L : List α} (hi : H[i]? = some (.row e s f W.heap.size v L)) {P : Program} {ops : Array Oper} {o : Oper} {a : Act} {K : Act → World → Prop} {Q : Exit → Act → World → Prop} {E : Prop} (hgd : o.guard = none) (sl x : Operand) (t : TypeId)
    (ho : o.op = .call { callee := .builtin .append, args := #[sl, x], argTypes := #[t, t] }) (z : Value) (bytes : Nat) (ht : P.underlying t = some (.slice e)) (hinfo : (P.info? e).map (fun i => (i.zero, i.size, i.bytes)) = some (some z, s, bytes))
    (hzs : z.cells.size = s) (hs0 : 0 < s) (hf : ∀ x, (f x).length = s) (hf1 : ∀ x, ∀ u ∈ f x, u.oneCell' = true) (M : List α) (ad : Addr) (m c : Nat)
    (hs : a.eval sl = v) (hx : a.eval x = .slice (some ad) m c) (hm : M.length = m) (hm0 : 0 < m) (hnews : ∀ j u, (M.flatMap f)[j]? = some u → w.cell? (ad.add j) = some u)
    (n : Nat) (hn : L.length = n) (hb : (n + m) * bytes ≤ 140737488355328) (hb1 : 1 ≤ bytes)
    (k : ∀ g cap w', Mem W w' (H.set i (.row e s f W.heap.size (.slice (some ⟨g, 0, none⟩) (n + m) cap) (L ++ M))) → K (a.put o.dst (.slice (some ⟨g, 0, none⟩) (n + m) cap)) w') :
    if Region.wanted o (yielded ops a.tmps) = true then Oper.wp P o a w K Q else E := by
  have hw : Region.wanted o (yielded ops a.tmps) = true := by simp [Region.wanted, hgd]
  rw [if_pos hw]
  obtain ⟨g, cap, w', hr, hM⟩ := h.app_run i hi (P := P) o.type t z bytes ht hinfo hzs hs0 hf hf1 M ad m c hm hm0 hnews n hn hb hb1
  unfold Oper.wp execOp
  simp only [ho, resolve, invoke, builtin, Sem.run_bind, Sem.run_pure, Result.andThen_ok, List.map_toArray, List.map_cons, List.map_nil, hs, hx, hr]
  exact k g cap w' hM
/-- Append of a list. -/
theorem wp_apps (h : Mem W w H) (i : Nat) {v : Value} {L : List α} (hi : H[i]? = some (.row e s f W.heap.size v L)) {P : Program} {ops : Array Oper} {rest : List Oper} {o : Oper} {a : Act} {Q : Exit → Act → World → Prop} (hgd : o.guard = none) (sl x : Operand) (t : TypeId)
    (ho : o.op = .call { callee := .builtin .append, args := #[sl, x], argTypes := #[t, t] }) (z : Value) (bytes : Nat) (ht : P.underlying t = some (.slice e)) (hinfo : (P.info? e).map (fun i => (i.zero, i.size, i.bytes)) = some (some z, s, bytes))
    (hzs : z.cells.size = s) (hs0 : 0 < s) (hf : ∀ x, (f x).length = s) (hf1 : ∀ x, ∀ u ∈ f x, u.oneCell' = true) (M : List α) (ad : Addr) (m c : Nat)
    (hs : a.eval sl = v) (hx : a.eval x = .slice (some ad) m c) (hm : M.length = m) (hm0 : 0 < m) (hnews : ∀ j u, (M.flatMap f)[j]? = some u → w.cell? (ad.add j) = some u)
    (n : Nat) (hn : L.length = n) (hb : (n + m) * bytes ≤ 140737488355328) (hb1 : 1 ≤ bytes)
    (k : ∀ g cap w', Mem W w' (H.set i (.row e s f W.heap.size (.slice (some ⟨g, 0, none⟩) (n + m) cap) (L ++ M))) → wpList P ops Q rest (a.put o.dst (.slice (some ⟨g, 0, none⟩) (n + m) cap)) w') :
    wpList P ops Q (o :: rest) a w := by
  refine wpList_plain hgd fun K hK => ?_
  obtain ⟨g, cap, w', hr, hM⟩ := h.app_run i hi (P := P) o.type t z bytes ht hinfo hzs hs0 hf hf1 M ad m c hm hm0 hnews n hn hb hb1
  unfold Oper.wp execOp
  simp only [ho, resolve, invoke, builtin, Sem.run_bind, Sem.run_pure, Result.andThen_ok, List.map_toArray, List.map_cons, List.map_nil, hs, hx, hr]
  exact hK _ _ (k g cap w' hM)
end
end Mem
end Go.Proofs.YthpjbffhdaaibaaGreat

set_option linter.unusedVariables false
namespace Go.Proofs.YthpjbffhdaaibaaGreat
open Go.RowKit
namespace Mem
variable {W w w' : World} {H : List Ck} {α : Type} {e : TypeId} {s : Nat} {f : α → List Value}
/-- A row without its last element, in the same block. -/
theorem shrink (h : Mem W w H) (i : Nat) {g n cap : Nat} {L : List α} {d : α} {base : Nat} (hf : ∀ x, (f x).length = s) (hn : L.length = n) (hi : H[i]? = some (.row e s f base (.slice (some ⟨g, 0, none⟩) (n + 1) cap) (L ++ [d]))) :
    Mem W w (H.set i (.row e s f base (.slice (some ⟨g, 0, none⟩) n cap) L)) := by
  subst hn
  refine h.upd hi _ (Below.refl 0 w) (fun b _ _ => rfl) ?_ (fun b hb => .inl hb)
  have ho := h.row i hi
  refine ⟨flat_len hf L, .inr ?_⟩
  rcases ho.2 with ⟨he, h0⟩ | ⟨g', cp, cur, he, q1, q2, q3, q4, q5, q6⟩
  · cases he
  · injection he with e1 e2 e3
    injection e1 with e1
    injection e1 with e1
    subst e1 e3
    refine ⟨g, cap, cur, rfl, q1, q2, by rw [List.length_append] at q3; omega, q4, q5, ?_⟩
    have q7 := congrArg (List.take (L.length * s)) q6
    have e4 : (List.flatMap f L).take (L.length * s) = List.flatMap f L := List.take_of_length_le (by rw [flat_len hf]; exact Nat.le_refl _)
    have e5 : min (L.length * s) ((L ++ [d]).length * s) = L.length * s := Nat.min_eq_left (Nat.mul_le_mul_right s (by rw [List.length_append]; omega))
    rw [List.take_take, e5, List.flatMap_append, List.take_append_of_le_length (by rw [flat_len hf]; exact Nat.le_refl _), e4] at q7
    exact q7
/-- An append of one element where there is room: in the same block. -/
theorem wp_app_in (h : Mem W w H) (i : Nat) {g n cap : Nat} {L : List α} (hi : H[i]? = some (.row e s f W.heap.size (.slice (some ⟨g, 0, none⟩) n cap) L)) {P : Program} {ops : Array Oper} {rest : List Oper} {o : Oper} {a : Act} {Q : Exit → Act → World → Prop} (hgd : o.guard = none) (sl x : Operand) (t : TypeId)
    (ho : o.op = .call { callee := .builtin .append, args := #[sl, x], argTypes := #[t, t] }) (z : Value) (bytes : Nat) (ht : P.underlying t = some (.slice e)) (hinfo : (P.info? e).map (fun i => (i.zero, i.size, i.bytes)) = some (some z, s, bytes))
    (hzs : z.cells.size = s) (hs0 : 0 < s) (hf : ∀ x, (f x).length = s) (hf1 : ∀ x, ∀ u ∈ f x, u.oneCell' = true) (d : α) (ad : Addr) (c : Nat)
    (hs : a.eval sl = .slice (some ⟨g, 0, none⟩) n cap) (hx : a.eval x = .slice (some ad) 1 c) (hnews : ∀ j u, (f d)[j]? = some u → w.cell? (ad.add j) = some u)
    (hn : L.length = n) (hroom : n + 1 ≤ cap) (hb : (n + 1) * bytes ≤ 140737488355328) (hb1 : 1 ≤ bytes)
    (k : ∀ w', Mem W w' (H.set i (.row e s f W.heap.size (.slice (some ⟨g, 0, none⟩) (n + 1) cap) (L ++ [d]))) → wpList P ops Q rest (a.put o.dst (.slice (some ⟨g, 0, none⟩) (n + 1) cap)) w') :
    wpList P ops Q (o :: rest) a w := by
  subst hn
  have hnews' : ∀ j u, ([d].flatMap f)[j]? = some u → w.cell? (ad.add j) = some u := by
    rw [List.flatMap_singleton]; exact hnews
  obtain ⟨g', cap', w', hr, hM⟩ := h.app_run i hi (P := P) o.type t z bytes ht hinfo hzs hs0 hf hf1 [d] ad 1 c rfl (by decide) hnews' L.length rfl hb hb1
  have hsame : g' = g ∧ cap' = cap := by
    obtain ⟨i0, hi0, hz0, hz1, hz2⟩ := info_parts hinfo
    rcases (h.row i hi).2 with ⟨he, h0⟩ | ⟨g1, cp, cur, he, q1, q2, q3, q4, q5, q6⟩
    · cases he
    · injection he with e1 e2 e3
      injection e1 with e1
      injection e1 with e1
      subst e1 e3
      have := run_append_room (P := P) w t o.type e i0 ht hi0 g L.length cap cur q2 ad 1 c (f d) (by rw [hf, hz1, Nat.one_mul]) hnews (hf1 d) hroom (by
        rw [hf, hz1, q5]
        have := Nat.mul_le_mul_right s hroom
        rw [Nat.add_mul] at this; omega)
      rw [this] at hr
      injection hr with hr _
      injection hr with r1 r2 r3
      injection r1 with r1
      injection r1 with r1
      exact ⟨r1.symm, r3.symm⟩
  obtain ⟨rfl, rfl⟩ := hsame
  refine wpList_plain hgd fun K hK => ?_
  unfold Oper.wp execOp
  simp only [ho, resolve, invoke, builtin, Sem.run_bind, Sem.run_pure, Result.andThen_ok, List.map_toArray, List.map_cons, List.map_nil, hs, hx, hr]
  exact hK _ _ (k w' hM)
/-- A slice that make lays, of no elements, with room for some. -/
theorem wp_make0 (h : Mem W w H) {P : Program} {ops : Array Oper} {rest : List Oper} {o : Oper} {a : Act} {Q : Exit → Act → World → Prop} (hgd : o.guard = none) (l c : Operand) (t : TypeId) (hop : o.op = Op.makeSlice t l c)
    (z : Value) (bytes : Nat) (ht : P.underlying t = some (.slice e)) (hinfo : (P.info? e).map (fun i => (i.zero, i.size, i.bytes)) = some (some z, s, bytes))
    (kl kc : IntKind) (C : Int) (n : Nat) (hl : a.eval l = .int kl 0) (hc : a.eval c = .int kc C) (hC : C = (n : Int)) (hb : bytes * n ≤ 281474976710656) (hm : n ≤ maxLen)
    (k : ∀ w', Mem W w' (H ++ [.row e s f W.heap.size (.slice (some ⟨w.heap.size, 0, none⟩) 0 n) ([] : List α)]) → Held w w' → wpList P ops Q rest (a.put o.dst (.slice (some ⟨w.heap.size, 0, none⟩) 0 n)) w') :
    wpList P ops Q (o :: rest) a w := by
  obtain ⟨i0, hi, hz0, hz1, hz2⟩ := info_parts hinfo
  refine wpList_make_own w hgd l c t hop w.heap.size e i0 z s ht hi hz0 hz1 kl kc C n hl hc hC (by rw [hz2]; exact hb) hm (Nat.le_refl _) ?_
  intro w' h1 h2
  have hh : Held w w' := ⟨h2.os, h2.tape, h2.output, h2.size, fun k hk => h2.block k hk (by simp)⟩
  exact k w' (h.own hh h1) hh
end Mem
/-- A row that is not empty lies in a block. -/
theorem own_blk {α : Type} {e : TypeId} {s : Nat} {f : α → List Value} {base : Nat} {w : World} {v : Value} {L : List α} (h : Own e s f base w v L) (hL : 0 < L.length) : ∃ g cap, v = .slice (some ⟨g, 0, none⟩) L.length cap ∧ L.length ≤ cap := by
  rcases h.2 with ⟨_, h0⟩ | ⟨g, cp, cur, he, q1, q2, q3, _⟩
  · omega
  · exact ⟨g, cp, he, q3⟩
end Go.Proofs.YthpjbffhdaaibaaGreat

set_option linter.unusedVariables false
namespace Go.Proofs.YthpjbffhdaaibaaGreat
open Go.RowKit
namespace Mem
variable {W w w' : World} {H : List Ck} {α : Type} {e : TypeId} {s : Nat} {f : α → List Value}
/-- Append of a list, wherever it lies. -/
theorem cat_run (h : Mem W w H) (i : Nat) {A0 : Option Addr} {n cap0 : Nat} {L : List α} (hi : H[i]? = some (.row e s f W.heap.size (.slice A0 n cap0) L)) {P : Program} (ty t : TypeId) (z : Value) (bytes : Nat) (ht : P.underlying t = some (.slice e)) (hinfo : (P.info? e).map (fun i => (i.zero, i.size, i.bytes)) = some (some z, s, bytes))
    (hzs : z.cells.size = s) (hs0 : 0 < s) (hf : ∀ x, (f x).length = s) (hf1 : ∀ x, ∀ u ∈ f x, u.oneCell' = true) (M : List α) (A : Option Addr) (m c : Nat) (hsl : Sl s f w A m M) (hn : L.length = n) (hb : (n + m) * bytes ≤ 140737488355328) (hb1 : 1 ≤ bytes) :
    ∃ A' cap' w', (Builtin.append_ #[t, t] ty #[.slice A0 n cap0, .slice A m c]).run P w = .ok (.slice A' (n + m) cap') w' ∧ Mem W w' (H.set i (.row e s f W.heap.size (.slice A' (n + m) cap') (L ++ M))) ∧ (A' = none → A0 = none) := by
  by_cases hm : m = 0
  · subst hm
    obtain ⟨i0, hi0, hz0, hz1, hz2⟩ := info_parts hinfo
    have hM : M = [] := List.eq_nil_of_length_eq_zero hsl.1
    subst hM
    have hsrc : Src P i0.size t (.slice A 0 c) 0 [] w := by
      cases A with
      | none => exact Src.ofNil w ht c
      | some ad => exact Src.ofSlice w ht ad 0 c [] (by simp) (by simp) (by simp)
    refine ⟨A0, cap0, w, run_append_nothing w t t ty e i0 ht hi0 A0 n cap0 (Own.cap (h.row i hi)) _ hsrc, ?_, id⟩
    rw [List.append_nil]
    obtain ⟨li, hli⟩ := List.getElem?_eq_some_iff.1 hi
    have : H.set i (.row e s f W.heap.size (.slice A0 (n + 0) cap0) L) = H := by
      rw [Nat.add_zero, ← hli]; exact List.set_getElem_self li
    rw [this]; exact h
  · rcases hsl.2 with h0 | ⟨b, off, rfl, hlt, hc⟩
    · exact absurd h0 hm
    · obtain ⟨g, cap, w', hr, hM⟩ := h.app_run i hi (P := P) ty t z bytes ht hinfo hzs hs0 hf hf1 M ⟨b, off, none⟩ m c hsl.1 (by omega) (Sl.flat hf hs0 hsl) n hn hb hb1
      exact ⟨_, cap, w', hr, hM, fun h => by cases h⟩
theorem wp_cat (h : Mem W w H) (i : Nat) {A0 : Option Addr} {n cap0 : Nat} {L : List α} (hi : H[i]? = some (.row e s f W.heap.size (.slice A0 n cap0) L)) {P : Program} {ops : Array Oper} {rest : List Oper} {o : Oper} {a : Act} {Q : Exit → Act → World → Prop} (hgd : o.guard = none) (sl x : Operand) (t : TypeId)
    (ho : o.op = .call { callee := .builtin .append, args := #[sl, x], argTypes := #[t, t] }) (z : Value) (bytes : Nat) (ht : P.underlying t = some (.slice e)) (hinfo : (P.info? e).map (fun i => (i.zero, i.size, i.bytes)) = some (some z, s, bytes))
    (hzs : z.cells.size = s) (hs0 : 0 < s) (hf : ∀ x, (f x).length = s) (hf1 : ∀ x, ∀ u ∈ f x, u.oneCell' = true) (M : List α) (A : Option Addr) (m c : Nat)
    (hs : a.eval sl = .slice A0 n cap0) (hx : a.eval x = .slice A m c) (hsl : Sl s f w A m M) (hn : L.length = n) (hb : (n + m) * bytes ≤ 140737488355328) (hb1 : 1 ≤ bytes)
    (k : ∀ A' cap' w', Mem W w' (H.set i (.row e s f W.heap.size (.slice A' (n + m) cap') (L ++ M))) → (A' = none → A0 = none) → wpList P ops Q rest (a.put o.dst (.slice A' (n + m) cap')) w') :
    wpList P ops Q (o :: rest) a w := by
  refine wpList_plain hgd fun K hK => ?_
  obtain ⟨A', cap', w', hr, hM, hA⟩ := h.cat_run i hi (P := P) o.type t z bytes ht hinfo hzs hs0 hf hf1 M A m c hsl hn hb hb1
  unfold Oper.wp execOp
  simp only [ho, resolve, invoke, builtin, Sem.run_bind, Sem.run_pure, Result.andThen_ok, List.map_toArray, List.map_cons, List.map_nil, hs, hx, hr]
  exact hK _ _ (k A' cap' w' hM hA)
/-- At a step of a region that draws its order. -/
theorem step_cat (h : Mem W w H) (i : Nat) {A0 : Option Addr} {n cap0 : Nat} {L : List α} (hi : H[i]? = some (.row e s f W.heap.size (.slice A0 n cap0) L)) {P : Program} {ops : Array Oper} {o : Oper} {a : Act} {K : Act → World → Prop} {Q : Exit → Act → World → Prop} {E : Prop} (hgd : o.guard = none) (sl x : Operand) (t : TypeId)
    (ho : o.op = .call { callee := .builtin .append, args := #[sl, x], argTypes := #[t, t] }) (z : Value) (bytes : Nat) (ht : P.underlying t = some (.slice e)) (hinfo : (P.info? e).map (fun i => (i.zero, i.size, i.bytes)) = some (some z, s, bytes))
    (hzs : z.cells.size = s) (hs0 : 0 < s) (hf : ∀ x, (f x).length = s) (hf1 : ∀ x, ∀ u ∈ f x, u.oneCell' = true) (M : List α) (A : Option Addr) (m c : Nat)
    (hs : a.eval sl = .slice A0 n cap0) (hx : a.eval x = .slice A m c) (hsl : Sl s f w A m M) (hn : L.length = n) (hb : (n + m) * bytes ≤ 140737488355328) (hb1 : 1 ≤ bytes)
    (k : ∀ A' cap' w', Mem W w' (H.set i (.row e s f W.heap.size (.slice A' (n + m) cap') (L ++ M))) → (A' = none → A0 = none) → K (a.put o.dst (.slice A' (n + m) cap')) w') :
    if Region.wanted o (yielded ops a.tmps) = true then Oper.wp P o a w K Q else E := by
  have hw : Region.wanted o (yielded ops a.tmps) = true := by simp [Region.wanted, hgd]
  rw [if_pos hw]
  obtain ⟨A', cap', w', hr, hM, hA⟩ := h.cat_run i hi (P := P) o.type t z bytes ht hinfo hzs hs0 hf hf1 M A m c hsl hn hb hb1
  unfold Oper.wp execOp
  simp only [ho, resolve, invoke, builtin, Sem.run_bind, Sem.run_pure, Result.andThen_ok, List.map_toArray, List.map_cons, List.map_nil, hs, hx, hr]
  exact k A' cap' w' hM hA
end Mem
end Go.Proofs.YthpjbffhdaaibaaGreat
