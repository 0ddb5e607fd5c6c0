/-
  Contracts: Encode of eventlog.
-/
import Derived.Test.YtdacgdokbfcgdaaEncO
import Derived.Deep.DeepCutAuto
import Derived.IntWalk
set_option linter.unusedVariables false
set_option linter.unusedSimpArgs false
set_option maxRecDepth 100000
namespace Go.Proofs.Ytdacgdokbfcgdaa
open Go.RowKit Go.BigFrame Go.Sort
namespace Enc
open Lgc Lg Strs
def EncTo (r : List UInt8 × Int) (w : World) (e : Ending) (w' : World) : Prop := e = .returned (.tuple #[.string ⟨r.1.toArray⟩, .int .i64 r.2]) ∧ Held w w'
theorem EncTo.mk {r : List UInt8 × Int} {w w' : World} {s : ByteArray} {c : Int} (h : r = (s.data.toList, c)) (hh : Held w w') : EncTo r w (.returned (.tuple #[.string s, .int .i64 c])) w' := by
  subst h; exact ⟨by rw [← str_mk (s := s) rfl], hh⟩
/-- A box that holds an entry. -/
def BoxE (q : Nat) (x : Ent) (w : World) : Prop := w.heap[q]? = some (.cells #[.int .u64 (x.t : Int), .int .i64 x.k, .int .u32 x.n, .string x.d] 43 (0, 0))
theorem BoxE.cells {q : Nat} {x : Ent} {w : World} (h : BoxE q x w) : w.cell? ⟨q, 0, none⟩ = some (.int .u64 (x.t : Int)) ∧ w.cell? ⟨q, 1, none⟩ = some (.int .i64 x.k) ∧ w.cell? ⟨q, 2, none⟩ = some (.int .u32 x.n) ∧ w.cell? ⟨q, 3, none⟩ = some (.string x.d) :=
  ⟨box_cell h 0 rfl, box_cell h 1 rfl, box_cell h 2 rfl, box_cell h 3 rfl⟩
theorem BoxE.held {q : Nat} {x : Ent} {w w' : World} (h : BoxE q x w) (k : Held w w') : BoxE q x w' := (k.block q (box_lt h)).trans h
theorem BoxE.kept {q b : Nat} {x : Ent} {w w' : World} (h : BoxE q x w) (k : Bld.Kept b w w') (hb : q ≠ b) : BoxE q x w' := k.box h hb (by decide)
theorem BoxE.new (x : Ent) (w : World) : BoxE w.heap.size x (w.alloc (.cells #[.int .u64 (x.t : Int), .int .i64 x.k, .int .u32 x.n, .string x.d] 43)) := box_new _ _
theorem all_next (L : List Ent) (k : Nat) (h : k < L.length) : (L.take (k + 1)).all okX = ((L.take k).all okX && okX L[k]) := by
  rw [take_next L k h, List.all_append]; simp
theorem all_no {L : List Ent} {k : Nat} (h : (L.take k).all okX = false) : L.all okX = false := by
  cases hh : L.all okX
  · rfl
  · rw [List.all_eq_true] at hh
    rw [List.all_eq_false] at h
    obtain ⟨x, hx, hn⟩ := h
    exact absurd (hh x (List.mem_of_mem_take hx)) hn
theorem enc_long {L : List Ent} {f : Nat} (h : 400 < L.length) : encode L f = ([], 1902) := if_pos h
theorem enc_form {L : List Ent} {f : Nat} (h : ¬ 400 < L.length) (h2 : L.all okX = false) : encode L f = ([], 1900) := by unfold encode; rw [if_neg h, if_pos h2]
theorem enc_order {L : List Ent} {f : Nat} (h : ¬ 400 < L.length) (h2 : L.all okX = true) (h3 : (!ord L || early L f) = true) : encode L f = ([], 1901) := by unfold encode; rw [if_neg h, if_neg (by simp [h2]), if_pos h3]
theorem enc_big {L : List Ent} {f : Nat} (h : ¬ 400 < L.length) (h2 : L.all okX = true) (h3 : (!ord L || early L f) = false) (h4 : 65536 < (Uv.put L.length ++ encF f L).length) : encode L f = ([], 1902) := by unfold encode; rw [if_neg h, if_neg (by simp [h2]), if_neg (by simp [h3]), if_pos h4]
theorem enc_yes {L : List Ent} {f : Nat} (h : ¬ 400 < L.length) (h2 : L.all okX = true) (h3 : (!ord L || early L f) = false) (h4 : ¬ 65536 < (Uv.put L.length ++ encF f L).length) : encode L f = (Uv.put L.length ++ encF f L, 0) := by unfold encode; rw [if_neg h, if_neg (by simp [h2]), if_neg (by simp [h3]), if_neg h4]
set_option maxHeartbeats 4000000 in
/-- The part behind the tests: the loop that writes. -/
theorem encode_any (A : Option Addr) (n cap : Nat) (L : List Ent) (f : Nat) (w : World) (h : Sl 4 entC w A n L) (hn : n ≤ 1000000) (hx : ∀ x ∈ L, EntOK x) (hf : (f : Int) ≤ 18446744073709551615) :
    Calls Try.prog 17 #[.slice A n cap, .int .u64 f] w (EncTo (encode L f) w) := by
  have HS := Lib.hid h
  have HX := Lib.hid hx
  have HL := Lib.hid h.1
  have hl := h.1
  clear h hx
  by_cases h4 : (400 : Int) < n
  · have HE := Lib.hid (enc_long (f := f) (L := L) (by omega))
    clear hl
    go_enter Try.func17, Try.ntmps17
    go_wp2
    go_ret2
    exact EncTo.mk HE.out (Held.refl _)
  · have HN : Hid (¬ 400 < L.length) := by show ¬ _; omega
    clear hl
    go_enter Try.func17, Try.ntmps17
    go_wp2
    go_loopw [16] (fun i wr => ∃ k : Nat, i = .int .i64 k ∧ k ≤ n ∧ (L.take k).all okX = true ∧ Held w wr) (fun i _ => n - (intOf i).toNat)
    case atStart => exact ⟨0, rfl, Nat.zero_le _, rfl, Held.refl _⟩
    case round =>
      obtain ⟨k, rfl, hk, ho, hh⟩ := hrel
      have HO := Lib.hid ho
      have HH := Lib.hid hh
      clear ho
      by_cases hlt : (k : Int) < n
      · obtain ⟨b, off, x, rfl, hb, hx1, hc1⟩ := HS.out.at_ hh (k := k) (by omega)
        have x0 := hc1 0 _ rfl
        have x1 := hc1 1 _ rfl
        have x2 := hc1 2 _ rfl
        have x3 := hc1 3 _ rfl
        rw [Nat.add_zero] at x0
        have hkL : k < L.length := by have := HL.out; omega
        have hxe : L[k] = x := by rw [List.getElem?_eq_getElem hkL] at hx1; injection hx1
        have hn1 := all_next L k hkL
        rw [hxe, HO.out, Bool.true_and] at hn1
        have hxo : EntOK x := HX.out x (hxe ▸ List.getElem_mem hkL)
        have HNX := Lib.hid hn1
        have HV := Lib.hid (fun w => Ev.valid_any x.k x.n x.d hxo.k1 hxo.k2 hxo.n1 hxo.n2 hxo.d w)
        clear hc1 hx1 hxe hn1 hh hkL hxo
        obtain ⟨v, hv⟩ : ∃ v, Ev.ok x.k x.n x.d.data.toList = v := ⟨_, rfl⟩
        rw [hv] at HV
        have HVX : Hid (okX x = v) := hv
        clear hv
        cases v
        · have HE := Lib.hid (enc_form (f := f) HN.out (all_no (by rw [HNX.out]; exact HVX.out)))
          go_wp2_with (go_at_call 8; refine (HV.out _).mono ?_; rintro e w1 ⟨rfl, h1⟩)
          go_ret2
          exact EncTo.mk HE.out ((HH.out.alloc _).step h1)
        · go_wp2_with (go_at_call 8; refine (HV.out _).mono ?_; rintro e w1 ⟨rfl, h1⟩)
          go_roundw
          case rel => exact ⟨k + 1, by go_num, by omega, HNX.out.trans HVX.out, (HH.out.alloc _).step h1⟩
          case measure => (simp [intOf]) <;> omega
      · obtain rfl : k = n := by omega
        have HA : Hid (L.all okX = true) := show _ = _ by have := HO.out; rw [← HL.out, List.take_length] at this; exact this
        clear hh HO
        have HOR := Lib.hid (fun cap w' (q : Held w w') => ord_any A k cap L w' (HS.out.held q) (by omega) HX.out)
        go_upto_region 9 with fail
        go_cut [40] (fun v wx => v = .bool (!ord L || early L f) ∧ Held w wx)
        case first =>
          obtain ⟨o, ho⟩ : ∃ o, ord L = o := ⟨_, rfl⟩
          rw [ho] at HOR
          have HHO := Lib.hid ho
          clear ho
          cases o
          · go_wp2_with (go_at_call 28; refine (HOR.out _ _ HH.out).mono ?_; rintro e w1 ⟨rfl, h1⟩)
            go_meet
            exact ⟨by rw [HHO.out]; rfl, HH.out.step h1⟩
          · by_cases hk0 : k = 0
            · have he : Hid (early L f = false) := show _ = _ by
                have : L = [] := List.eq_nil_of_length_eq_zero (by have := HL.out; omega)
                subst this; rfl
              have d1 : decide ((0 : Int) < k) = false := by simp; omega
              have d1n : decide (0 < k) = false := by simp; omega
              clear hk0
              go_wp2_with (go_at_call 28; refine (HOR.out _ _ HH.out).mono ?_; rintro e w1 ⟨rfl, h1⟩)
              go_meet
              exact ⟨by rw [HHO.out, he.out]; rfl, HH.out.step h1⟩
            · obtain ⟨b, off, x, rfl, hb, hx1, hc1⟩ := HS.out.at_ (Held.refl w) (k := 0) (by omega)
              have x0 := hc1 0 _ rfl
              simp only [Nat.zero_mul, Nat.add_zero] at x0
              have he : Hid (early L f = decide (x.t < f)) := show _ = _ by unfold early; rw [hx1]
              have d1 : (0 : Int) < k := by omega
              have d1n : 0 < k := by omega
              clear hk0 hc1 hx1
              have X0 := Lib.hid (fun w' (q : Held w w') => q.cell x0)
              clear x0
              by_cases hlt2 : x.t < f
              · have e1 : (x.t : Int) < f := by omega
                go_wp2_with (go_at_call 28; refine (HOR.out _ _ HH.out).mono ?_; rintro e w1 ⟨rfl, h1⟩; have x0 := X0.out _ (HH.out.step h1))
                go_meet
                exact ⟨by rw [HHO.out, he.out]; simp [hlt2], HH.out.step h1⟩
              · have e2 : decide (x.t < f) = false := by simp; omega
                have e1 : decide ((x.t : Int) < f) = false := by simp; omega
                go_wp2_with (go_at_call 28; refine (HOR.out _ _ HH.out).mono ?_; rintro e w1 ⟨rfl, h1⟩; have x0 := X0.out _ (HH.out.step h1))
                go_meet
                exact ⟨by rw [HHO.out, he.out]; simp [hlt2], HH.out.step h1⟩
        case rest =>
          obtain ⟨rfl, hhx⟩ := hcut
          clear HOR HH
          have HH := Lib.hid hhx
          clear hhx
          obtain ⟨o, ho⟩ : ∃ o, (!ord L || early L f) = o := ⟨_, rfl⟩
          rw [ho]
          cases o
          · have HHO := Lib.hid ho
            clear ho
            have hor : ord L = true ∧ early L f = false := by have := HHO.out; simpa using this
            have HOE := Lib.hid hor
            clear hor
            have hpk := Uv.put_len k (by omega)
            have HP := Lib.hid (fun w => put_any k (by omega) w)
            have HLK : Hid (Uv.put L.length = Uv.put k) := show _ = _ by rw [HL.out]
            generalize Uv.put k = pk at hpk HP HLK
            have B0 := Lib.hid (Bld.Is.new wc)
            have hb0 : Hid (w.heap.size ≤ wc.heap.size) := HH.out.le
            go_wp2_with fail
            refine (HP.out _).mono ?_
            rintro e w1 ⟨rfl, h1⟩
            have B1 := Lib.hid (B0.out.held h1)
            have W1 := Lib.hid ((HH.out.alloc (.cells #[.pointer none, .slice none 0 0] 61)).step h1)
            have hs1 : wc.heap.size < w1.heap.size := by have := h1.size; simp at this; omega
            clear h1 HP B0
            generalize wc.heap.size = bb at hb0 B1 hs1 ⊢
            have hl1 := ba_size pk
            go_wp2_with fail
            refine (Bld.write_any bb [] _ w1 B1.out (by rw [hl1]; simp; omega) (by omega)).mono ?_
            rintro e w2 ⟨rfl, i2, k2⟩
            have i3 : Bld.Is bb (pk ++ encF f (L.take 0)) w2 := by simpa [encF] using i2
            have I2 := Lib.hid i3
            have W2 := Lib.hid (k2.heldOf W1.out hb0.out)
            have hs2 : bb < w2.heap.size := by have := k2.1.size; omega
            clear i2 k2 B1 W1 hs1 hl1 HH i3
            go_wp2
            go_loopw [1, 48] (fun lt i wr => ∃ q : Nat, i = .int .i64 q ∧ q ≤ k ∧ lt = .int .u64 (lastT f (L.take q) : Nat) ∧ Bld.Is bb (pk ++ encF f (L.take q)) wr ∧ Held w wr ∧ bb < wr.heap.size) (fun _ i _ => k - (intOf i).toNat)
            case atStart => exact ⟨0, rfl, Nat.zero_le _, rfl, I2.out, W2.out, hs2⟩
            case round =>
              obtain ⟨q, rfl, hq, rfl, hi, hh, hs3⟩ := hrel
              have HI := Lib.hid hi
              have HH := Lib.hid hh
              have hel : (encF f (L.take q)).length ≤ 168 * q := by
                have := encF_len (L := L.take q) (fun y hy => ⟨HX.out y (List.mem_of_mem_take hy), by have h9 := HA.out; rw [List.all_eq_true] at h9; exact h9 y (List.mem_of_mem_take hy)⟩) f
                rw [List.length_take] at this
                omega
              clear hi
              by_cases hlt2 : (q : Int) < k
              · obtain ⟨b, off, x, rfl, hb, hx1, hc1⟩ := HS.out.at_ hh (k := q) (by omega)
                have x0 := hc1 0 _ rfl
                have x1 := hc1 1 _ rfl
                have x2 := hc1 2 _ rfl
                have x3 := hc1 3 _ rfl
                rw [Nat.add_zero] at x0
                have hqL : q < L.length := by have := HL.out; omega
                have hxe : L[q] = x := by rw [List.getElem?_eq_getElem hqL] at hx1; injection hx1
                have hxm : x ∈ L := hxe ▸ List.getElem_mem hqL
                have hxo := HX.out x hxm
                have hxk : okX x = true := by have h9 := HA.out; rw [List.all_eq_true] at h9; exact h9 x hxm
                obtain ⟨k1, k6, kd⟩ := ok_bd hxk
                have hle := last_le HOE.out.1 HOE.out.2 hqL
                have hln := lastT_next L f q hqL
                have hen := encF_next L f q hqL
                rw [hxe] at hle hln hen
                have hxt := hxo.t
                have hxn := hxo.n1
                have hxn2 := hxo.n2
                clear hxm hxo hxk hxe hx1 hc1 hh
                obtain ⟨t, kk, nn, d⟩ := x
                simp only at x0 x1 x2 x3 k1 k6 kd hle hln hen hxt hxn hxn2
                obtain ⟨kk, rfl⟩ := Int.eq_ofNat_of_zero_le (show 0 ≤ kk by omega)
                obtain ⟨nn, rfl⟩ := Int.eq_ofNat_of_zero_le hxn
                rw [len_eq] at kd
                generalize lastT f (L.take q) = lt at hle hen ⊢
                have HLN := Lib.hid hln
                have HEN := Lib.hid hen
                have hsub : IntKind.u64.wrap ((t : Int) - (lt : Int)) = ((t - lt : Nat) : Int) := by
                  rw [IntWalk.u64_in _ (by omega)]; omega
                have HP := Lib.hid (fun w => put_any (t - lt) (by omega) w)
                have hpl := Uv.put_len (t - lt) (by omega)
                have hpz := ba_size (Uv.put (t - lt))
                have HPZ := Lib.hid hpz
                have HQ := Lib.hid (fun w => encodeEvent_any kk nn d (by omega) (by omega) (by omega) kd w)
                have hql := encE_len (k := kk) (n := nn) (d := d.data.toList) (by omega) (by omega) (by omega) (by omega) (by rw [len_eq]; exact kd)
                have hcl : (pk ++ encF f (L.take q)).length ≤ 70000 := by rw [List.length_append]; omega
                have hcl2 : Hid ((pk ++ encF f (L.take q)).length + (Uv.put (t - lt)).length ≤ 80000) := show _ ≤ _ by omega
                have BX : Hid (BoxE wr.heap.size ⟨t, kk, nn, d⟩ (wr.alloc (.cells #[.int .u64 (t : Int), .int .i64 kk, .int .u32 nn, .string d] 43))) := BoxE.new ⟨t, kk, nn, d⟩ wr
                clear hln hen hpz
                go_wp2_with fail
                refine (HP.out _).mono ?_
                rintro e w3 ⟨rfl, h3⟩
                have B3 := Lib.hid (HI.out.held (Held.step ((Held.refl wr).alloc _) h3))
                have X3 := Lib.hid (BX.out.held h3)
                have W3 := Lib.hid ((HH.out.alloc (.cells #[.int .u64 (t : Int), .int .i64 kk, .int .u32 nn, .string d] 43)).step h3)
                have hs4 : bb < w3.heap.size := by have := h3.size; simp at this; omega
                have hnb : Hid (¬ wr.heap.size = bb) := by show ¬ _; omega
                obtain ⟨z0, z1, z2, z3⟩ := X3.out.cells
                clear h3 HP BX hsub
                go_wp2_with fail
                refine (Bld.write_any bb _ _ w3 B3.out (by rw [HPZ.out]; omega) (by omega)).mono ?_
                rintro e w4 ⟨rfl, i4, k4⟩
                have B4 := Lib.hid i4
                have X4 := Lib.hid (X3.out.kept k4 hnb.out)
                have W4 := Lib.hid (k4.heldOf W3.out hb0.out)
                have hs5 : bb < w4.heap.size := by have := k4.1.size; omega
                clear z0 z1 z2 z3 i4 k4 B3 X3 W3
                obtain ⟨z0, z1, z2, z3⟩ := X4.out.cells
                go_wp2_with fail
                refine (HQ.out _).mono ?_
                rintro e w5 ⟨rfl, h5⟩
                have B5 := Lib.hid (B4.out.held h5)
                have W5 := Lib.hid (W4.out.step h5)
                have hs6 : bb < w5.heap.size := by have := h5.size; omega
                clear z0 z1 z2 z3 h5 B4 X4 W4
                go_wp2_with fail
                refine (Bld.write_any bb _ ⟨(encE kk nn d.data.toList).toArray⟩ w5 B5.out (by rw [ba_size]; have := hcl2.out; simp only [List.length_append] at this ⊢; omega) (by omega)).mono ?_
                rintro e w6 ⟨rfl, i6, k6'⟩
                have B6 : Hid (Bld.Is bb (pk ++ encF f (L.take (q + 1))) w6) := show Bld.Is _ _ _ by
                  rw [HEN.out]; simpa using i6
                have W6 := Lib.hid (k6'.heldOf W5.out hb0.out)
                have hs7 : bb < w6.heap.size := by have := k6'.1.size; omega
                clear i6 k6' B5 W5
                go_wp2
                go_roundw
                case rel => exact ⟨q + 1, by go_num, by omega, by rw [HLN.out], B6.out, W6.out, hs7⟩
                case measure => (simp [intOf]) <;> omega
              · obtain rfl : q = k := by omega
                have htk : L.take q = L := by rw [← HL.out, List.take_length]
                have hcl : (pk ++ encF f L).length ≤ 70000 := by rw [htk] at hel; rw [List.length_append]; omega
                rw [htk] at HI
                clear hh hel htk
                have hcc : Uv.put L.length ++ encF f L = pk ++ encF f L := by rw [HLK.out]
                by_cases h65 : 65536 < (pk ++ encF f L).length
                · have HE := Lib.hid (enc_big (f := f) HN.out HA.out (by simp [HOE.out.1, HOE.out.2]) (by rw [hcc]; exact h65))
                  clear hcc
                  obtain ⟨r, hr⟩ : ∃ r, pk ++ encF f L = r := ⟨_, rfl⟩
                  rw [hr] at HI h65 hcl
                  have h65' : (65536 : Int) < r.length := by omega
                  clear hr
                  go_wp2_with fail
                  refine (Bld.len_any bb r wr HI.out).mono ?_
                  rintro e w3 ⟨rfl, rfl⟩
                  go_wp2
                  go_ret2
                  exact EncTo.mk HE.out HH.out
                · have HE := Lib.hid (enc_yes (f := f) HN.out HA.out (by simp [HOE.out.1, HOE.out.2]) (by rw [hcc]; exact h65))
                  rw [hcc] at HE
                  clear hcc
                  obtain ⟨r, hr⟩ : ∃ r, pk ++ encF f L = r := ⟨_, rfl⟩
                  rw [hr] at HI HE h65 hcl
                  have h65' : ¬ (65536 : Int) < r.length := by omega
                  clear hr
                  go_wp2_with fail
                  refine (Bld.len_any bb r wr HI.out).mono ?_
                  rintro e w3 ⟨rfl, rfl⟩
                  go_wp2_with fail
                  refine (Bld.string_any bb r _ HI.out (by omega)).mono ?_
                  rintro e w4 ⟨rfl, i4, k4⟩
                  have W4 := Lib.hid (k4.heldOf HH.out hb0.out)
                  clear i4 k4
                  go_wp2
                  go_ret2
                  exact EncTo.mk (by rw [HE.out]) W4.out
          · have HE := Lib.hid (enc_order HN.out HA.out ho)
            clear ho
            go_wp2
            go_ret2
            exact EncTo.mk HE.out HH.out
end Enc
end Go.Proofs.Ytdacgdokbfcgdaa
