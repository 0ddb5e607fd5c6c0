/-
  Contracts of the reference's machine: the page table.
  Contracts of the reference's machine: resolving an address.
  Contracts of the reference's machine: arithmetic.
  Structs of many cells, by value, at a step of a region that draws its order (laws of no program).
  Structs of many cells, by value, in a region that draws its order and is walked one way only; and parts of structs (laws of no program).
-/
import Derived.Test.YtdacgdokbfcgdaaGreatW2
import Derived.Test.YtdacgdokbfcgdaaGreatW1
import Derived.Deep.RegionHeld3
import Derived.Deep.QuietTactic
set_option linter.unusedVariables false
set_option linter.unusedSimpArgs false
set_option maxRecDepth 100000
namespace Go.Proofs.YtdacgdokbfcgdaaGreat
open Go.RowKit Go.BigFrame Go.Sort Go.Lib
namespace Ma
theorem load_tr {w : World} {b : Nat} {y0 y1 y2 : Value} {t : TypeId} (h : w.heap[b]? = some (.cells #[y0, y1, y2] t (0, 0))) : (loadVar 236 ⟨b, 0, none⟩).run Tryz.prog w = .ok (.agg #[y0, y1, y2]) w := by
  have c0 := Bx.cell h 0 (v := y0) rfl
  have c1 := Bx.cell h 1 (v := y1) rfl
  have c2 := Bx.cell h 2 (v := y2) rfl
  simp [loadVar, go_sem, c0, c1, c2]
def TrTo (w : World) (e : Ending) (w' : World) : Prop := ∃ (ad en : Nat) (ca : Int), e = .returned (.agg #[.int .u32 (ad : Int), .int .u32 (en : Int), .int .i64 ca]) ∧ ad < 4294967296 ∧ en < 4294967296 ∧ 0 ≤ ca ∧ ca ≤ 100 ∧ (ca = 0 → ad < 1024) ∧ Held w w'
theorem wd_nat {z : Int} (h : Wd z) : ∃ n : Nat, z = n ∧ n < 4294967296 := ⟨z.toNat, by have := h.1; omega, by have := h.1; have := h.2; omega⟩
set_option maxHeartbeats 8000000 in
theorem walk1 (A : Option Addr) (cap r va : Nat) (L : List Int) (hr : r < 4294967296) (hva : va < 4294967296) (hcap : 256 ≤ cap) (hL : MemOK L) (w : World) (h : Sl 1 uC w A 256 L) :
    Calls Tryz.prog 148 #[.slice A 256 cap, .int .u32 (r : Int), .int .u32 (va : Int), .int .i64 1] w (TrTo w) := by
  have HCA := Lib.hid fun w => (show Calls Tryz.prog 147 #[.int .i64 1] w (fun e w' => e = .returned (.int .i64 4) ∧ w = w') from cause_any 1 (by decide) w)
  have HK := Lib.hid fun w => (show Calls Tryz.prog 145 #[.int .i64 1] w (fun e w' => e = .returned (.bool true) ∧ w = w') from known_any 1 (by decide) w)
  have HP := Lib.hid fun w => pages_any A cap w
  by_cases hv : 4096 ≤ va
  · have yv : (4096 : Int) ≤ va := by omega
    clear hL h hv
    have MZ := Lib.hid (((Mem.start w).alloc #[.int .u32 0, .int .u32 0, .int .i64 4] 236).alloc' (b := w.heap.size + 1) (by simp) #[.int .u32 0, .int .u32 0, .int .i64 4] 236)
    go_enter Tryz.func148, Tryz.ntmps148
    go_wp2_with fail
    refine (HCA.out _).mono ?_
    rintro e w3 ⟨rfl, rfl⟩
    go_wp2_with fail
    refine (HP.out _).mono ?_
    rintro e w3 ⟨rfl, rfl⟩
    go_wp2_with fail
    refine (HK.out _).mono ?_
    rintro e w3 ⟨rfl, rfl⟩
    go_wp2
    refine bodyPost_ret (Bx.res_c Tryz.results148 rfl (load_tr (MZ.out.blk 0 rfl))) rfl ?_
    exact ⟨0, 0, 4, rfl, by decide, by decide, by decide, by decide, (fun h => by cases h), MZ.out.held⟩
  · have yv : ¬ (4096 : Int) ≤ va := by omega
    by_cases hr8 : 8 ≤ r
    · have yr : (8 : Int) ≤ r := by omega
      clear hL h hv hr8
      have MZ := Lib.hid (((Mem.start w).alloc #[.int .u32 0, .int .u32 0, .int .i64 4] 236).alloc' (b := w.heap.size + 1) (by simp) #[.int .u32 0, .int .u32 0, .int .i64 4] 236)
      go_enter Tryz.func148, Tryz.ntmps148
      go_wp2_with fail
      refine (HCA.out _).mono ?_
      rintro e w3 ⟨rfl, rfl⟩
      go_wp2_with fail
      refine (HP.out _).mono ?_
      rintro e w3 ⟨rfl, rfl⟩
      go_wp2_with fail
      refine (HK.out _).mono ?_
      rintro e w3 ⟨rfl, rfl⟩
      go_wp2
      refine bodyPost_ret (Bx.res_c Tryz.results148 rfl (load_tr (MZ.out.blk 0 rfl))) rfl ?_
      exact ⟨0, 0, 4, rfl, by decide, by decide, by decide, by decide, (fun h => by cases h), MZ.out.held⟩
    · have yr : ¬ (8 : Int) ≤ r := by omega
      obtain ⟨p, hp⟩ : ∃ p, va / 128 = p := ⟨_, rfl⟩
      have hp2 : (va : Int).tdiv 128 = (p : Int) := by rw [Int.tdiv_eq_ediv_of_nonneg (by omega)]; omega
      have hp3 : p ≤ 31 := by omega
      obtain ⟨en, hen⟩ : ∃ en, r * 128 + 4 * p = en := ⟨_, rfl⟩
      have yen : (r : Int) * 128 + 4 * (p : Int) = (en : Int) := by omega
      have hen2 : en < 1024 := by omega
      have yen2 : (en : Int) < 1024 := by omega
      obtain ⟨q, hq⟩ : ∃ q, en / 4 = q := ⟨_, rfl⟩
      have hd : (en : Int).tdiv 4 = (q : Int) := by rw [Int.tdiv_eq_ediv_of_nonneg (by omega)]; omega
      have z1 : (q : Int) < 256 := by omega
      have z2 : (0 : Int) ≤ q := by omega
      have yp : (p : Int) ≤ 31 := by omega
      have yr7 : (r : Int) ≤ 7 := by omega
      obtain ⟨b, off, rfl, hb, c0⟩ := wordAt h (Held.refl w) (k := q) (by omega)
      have hb1 : ¬ b = w.heap.size := by omega
      have hb2 : ¬ b = w.heap.size + 1 := by omega
      have ycap : (256 : Int) ≤ cap := by omega
      have hx9 : Wd (L.getD q 0) := by
        by_cases hj : q < L.length
        · have e : L.getD q 0 = L[q] := by simp [hj]
          rw [e]; exact hL.bd _ (List.getElem_mem _)
        · have e : L.getD q 0 = 0 := by simp [hj]
          rw [e]; exact ⟨by decide, by decide⟩
      obtain ⟨x, hx⟩ : ∃ x, L.getD q 0 = x := ⟨_, rfl⟩
      rw [hx] at c0 hx9
      have hx0 : 0 ≤ x := hx9.1
      have hx1 : x ≤ 4294967295 := hx9.2
      obtain ⟨fr, hfr0, hfr1⟩ := wd_nat (bits_wd .and (x / 256) 255)
      clear hL h hv hr8 hq hx hx9 hp hen
      by_cases t1 : bits .and .u32 x 1 = 0
      · have MZ := Lib.hid (((Mem.start w).alloc #[.int .u32 0, .int .u32 0, .int .i64 4] 236).alloc' (b := w.heap.size + 1) (by simp) #[.int .u32 0, .int .u32 0, .int .i64 4] 236)
        go_enter Tryz.func148, Tryz.ntmps148
        go_wp2_with fail
        refine (HCA.out _).mono ?_
        rintro e w3 ⟨rfl, rfl⟩
        go_wp2_with fail
        refine (HP.out _).mono ?_
        rintro e w3 ⟨rfl, rfl⟩
        go_wp2_with fail
        refine (HK.out _).mono ?_
        rintro e w3 ⟨rfl, rfl⟩
        go_wp2
        refine bodyPost_ret (Bx.res_c Tryz.results148 rfl (load_tr (MZ.out.blk 0 rfl))) rfl ?_
        exact ⟨0, 0, 4, rfl, by decide, by decide, by decide, by decide, (fun h => by cases h), MZ.out.held⟩
      · have tb1 : (bits .and .u32 x 1 == 0) = false := by rw [beq_eq_false_iff_ne]; exact t1
        by_cases t4 : bits .and .u32 x 4 = 0
        · have MZ := Lib.hid (((Mem.start w).alloc #[.int .u32 0, .int .u32 0, .int .i64 4] 236).alloc' (b := w.heap.size + 1) (by simp) #[.int .u32 0, .int .u32 0, .int .i64 4] 236)
          go_enter Tryz.func148, Tryz.ntmps148
          go_wp2_with fail
          refine (HCA.out _).mono ?_
          rintro e w3 ⟨rfl, rfl⟩
          go_wp2_with fail
          refine (HP.out _).mono ?_
          rintro e w3 ⟨rfl, rfl⟩
          go_wp2_with fail
          refine (HK.out _).mono ?_
          rintro e w3 ⟨rfl, rfl⟩
          go_wp2
          refine bodyPost_ret (Bx.res_c Tryz.results148 rfl (load_tr (MZ.out.blk 0 rfl))) rfl ?_
          exact ⟨0, 0, 4, rfl, by decide, by decide, by decide, by decide, (fun h => by cases h), MZ.out.held⟩
        · have tb4 : (bits .and .u32 x 4 == 0) = false := by rw [beq_eq_false_iff_ne]; exact t4
          by_cases hfr : 8 ≤ fr
          · have yf : (8 : Int) ≤ fr := by omega
            have MZ := Lib.hid (((Mem.start w).alloc #[.int .u32 0, .int .u32 0, .int .i64 4] 236).alloc' (b := w.heap.size + 1) (by simp) #[.int .u32 0, .int .u32 0, .int .i64 4] 236)
            go_enter Tryz.func148, Tryz.ntmps148
            go_wp2_with fail
            refine (HCA.out _).mono ?_
            rintro e w3 ⟨rfl, rfl⟩
            go_wp2_with fail
            refine (HP.out _).mono ?_
            rintro e w3 ⟨rfl, rfl⟩
            go_wp2_with fail
            refine (HK.out _).mono ?_
            rintro e w3 ⟨rfl, rfl⟩
            go_wp2
            refine bodyPost_ret (Bx.res_c Tryz.results148 rfl (load_tr (MZ.out.blk 0 rfl))) rfl ?_
            exact ⟨0, 0, 4, rfl, by decide, by decide, by decide, by decide, (fun h => by cases h), MZ.out.held⟩
          · have yf : ¬ (8 : Int) ≤ fr := by omega
            obtain ⟨m, hm⟩ : ∃ m, va % 128 = m := ⟨_, rfl⟩
            have hm2 : (va : Int).tmod 128 = (m : Int) := by rw [Int.tmod_eq_emod_of_nonneg (by omega)]; omega
            have ym : (m : Int) ≤ 127 := by omega
            obtain ⟨ad, had⟩ : ∃ ad, fr * 128 + m = ad := ⟨_, rfl⟩
            have had2 : ad < 1024 := by omega
            have yad : (fr : Int) * 128 + (m : Int) = (ad : Int) := by omega
            have yad2 : (ad : Int) < 1024 := by omega
            have yfr : (fr : Int) ≤ 7 := by omega
            clear had hm
            have MZ := Lib.hid (((Mem.start w).alloc #[.int .u32 (ad : Int), .int .u32 (en : Int), .int .i64 0] 236).alloc' (b := w.heap.size + 1) (by simp) #[.int .u32 0, .int .u32 0, .int .i64 4] 236)
            go_enter Tryz.func148, Tryz.ntmps148
            go_wp2_with fail
            refine (HCA.out _).mono ?_
            rintro e w3 ⟨rfl, rfl⟩
            go_wp2_with fail
            refine (HP.out _).mono ?_
            rintro e w3 ⟨rfl, rfl⟩
            go_wp2_with fail
            refine (HK.out _).mono ?_
            rintro e w3 ⟨rfl, rfl⟩
            go_wp2
            refine bodyPost_ret (Bx.res_c Tryz.results148 rfl (load_tr (MZ.out.blk 0 rfl))) rfl ?_
            exact ⟨ad, en, 0, rfl, by omega, by omega, by decide, by decide, (fun _ => had2), MZ.out.held⟩
set_option maxHeartbeats 8000000 in
theorem walk2 (A : Option Addr) (cap r va : Nat) (L : List Int) (hr : r < 4294967296) (hva : va < 4294967296) (hcap : 256 ≤ cap) (hL : MemOK L) (w : World) (h : Sl 1 uC w A 256 L) :
    Calls Tryz.prog 148 #[.slice A 256 cap, .int .u32 (r : Int), .int .u32 (va : Int), .int .i64 2] w (TrTo w) := by
  have HCA := Lib.hid fun w => (show Calls Tryz.prog 147 #[.int .i64 2] w (fun e w' => e = .returned (.int .i64 5) ∧ w = w') from cause_any 2 (by decide) w)
  have HK := Lib.hid fun w => (show Calls Tryz.prog 145 #[.int .i64 2] w (fun e w' => e = .returned (.bool true) ∧ w = w') from known_any 2 (by decide) w)
  have HP := Lib.hid fun w => pages_any A cap w
  by_cases hv : 4096 ≤ va
  · have yv : (4096 : Int) ≤ va := by omega
    clear hL h hv
    have MZ := Lib.hid (((Mem.start w).alloc #[.int .u32 0, .int .u32 0, .int .i64 5] 236).alloc' (b := w.heap.size + 1) (by simp) #[.int .u32 0, .int .u32 0, .int .i64 5] 236)
    go_enter Tryz.func148, Tryz.ntmps148
    go_wp2_with fail
    refine (HCA.out _).mono ?_
    rintro e w3 ⟨rfl, rfl⟩
    go_wp2_with fail
    refine (HP.out _).mono ?_
    rintro e w3 ⟨rfl, rfl⟩
    go_wp2_with fail
    refine (HK.out _).mono ?_
    rintro e w3 ⟨rfl, rfl⟩
    go_wp2
    refine bodyPost_ret (Bx.res_c Tryz.results148 rfl (load_tr (MZ.out.blk 0 rfl))) rfl ?_
    exact ⟨0, 0, 5, rfl, by decide, by decide, by decide, by decide, (fun h => by cases h), MZ.out.held⟩
  · have yv : ¬ (4096 : Int) ≤ va := by omega
    by_cases hr8 : 8 ≤ r
    · have yr : (8 : Int) ≤ r := by omega
      clear hL h hv hr8
      have MZ := Lib.hid (((Mem.start w).alloc #[.int .u32 0, .int .u32 0, .int .i64 5] 236).alloc' (b := w.heap.size + 1) (by simp) #[.int .u32 0, .int .u32 0, .int .i64 5] 236)
      go_enter Tryz.func148, Tryz.ntmps148
      go_wp2_with fail
      refine (HCA.out _).mono ?_
      rintro e w3 ⟨rfl, rfl⟩
      go_wp2_with fail
      refine (HP.out _).mono ?_
      rintro e w3 ⟨rfl, rfl⟩
      go_wp2_with fail
      refine (HK.out _).mono ?_
      rintro e w3 ⟨rfl, rfl⟩
      go_wp2
      refine bodyPost_ret (Bx.res_c Tryz.results148 rfl (load_tr (MZ.out.blk 0 rfl))) rfl ?_
      exact ⟨0, 0, 5, rfl, by decide, by decide, by decide, by decide, (fun h => by cases h), MZ.out.held⟩
    · have yr : ¬ (8 : Int) ≤ r := by omega
      obtain ⟨p, hp⟩ : ∃ p, va / 128 = p := ⟨_, rfl⟩
      have hp2 : (va : Int).tdiv 128 = (p : Int) := by rw [Int.tdiv_eq_ediv_of_nonneg (by omega)]; omega
      have hp3 : p ≤ 31 := by omega
      obtain ⟨en, hen⟩ : ∃ en, r * 128 + 4 * p = en := ⟨_, rfl⟩
      have yen : (r : Int) * 128 + 4 * (p : Int) = (en : Int) := by omega
      have hen2 : en < 1024 := by omega
      have yen2 : (en : Int) < 1024 := by omega
      obtain ⟨q, hq⟩ : ∃ q, en / 4 = q := ⟨_, rfl⟩
      have hd : (en : Int).tdiv 4 = (q : Int) := by rw [Int.tdiv_eq_ediv_of_nonneg (by omega)]; omega
      have z1 : (q : Int) < 256 := by omega
      have z2 : (0 : Int) ≤ q := by omega
      have yp : (p : Int) ≤ 31 := by omega
      have yr7 : (r : Int) ≤ 7 := by omega
      obtain ⟨b, off, rfl, hb, c0⟩ := wordAt h (Held.refl w) (k := q) (by omega)
      have hb1 : ¬ b = w.heap.size := by omega
      have hb2 : ¬ b = w.heap.size + 1 := by omega
      have ycap : (256 : Int) ≤ cap := by omega
      have hx9 : Wd (L.getD q 0) := by
        by_cases hj : q < L.length
        · have e : L.getD q 0 = L[q] := by simp [hj]
          rw [e]; exact hL.bd _ (List.getElem_mem _)
        · have e : L.getD q 0 = 0 := by simp [hj]
          rw [e]; exact ⟨by decide, by decide⟩
      obtain ⟨x, hx⟩ : ∃ x, L.getD q 0 = x := ⟨_, rfl⟩
      rw [hx] at c0 hx9
      have hx0 : 0 ≤ x := hx9.1
      have hx1 : x ≤ 4294967295 := hx9.2
      obtain ⟨fr, hfr0, hfr1⟩ := wd_nat (bits_wd .and (x / 256) 255)
      clear hL h hv hr8 hq hx hx9 hp hen
      by_cases t1 : bits .and .u32 x 1 = 0
      · have MZ := Lib.hid (((Mem.start w).alloc #[.int .u32 0, .int .u32 0, .int .i64 5] 236).alloc' (b := w.heap.size + 1) (by simp) #[.int .u32 0, .int .u32 0, .int .i64 5] 236)
        go_enter Tryz.func148, Tryz.ntmps148
        go_wp2_with fail
        refine (HCA.out _).mono ?_
        rintro e w3 ⟨rfl, rfl⟩
        go_wp2_with fail
        refine (HP.out _).mono ?_
        rintro e w3 ⟨rfl, rfl⟩
        go_wp2_with fail
        refine (HK.out _).mono ?_
        rintro e w3 ⟨rfl, rfl⟩
        go_wp2
        refine bodyPost_ret (Bx.res_c Tryz.results148 rfl (load_tr (MZ.out.blk 0 rfl))) rfl ?_
        exact ⟨0, 0, 5, rfl, by decide, by decide, by decide, by decide, (fun h => by cases h), MZ.out.held⟩
      · have tb1 : (bits .and .u32 x 1 == 0) = false := by rw [beq_eq_false_iff_ne]; exact t1
        by_cases hfr : 8 ≤ fr
        · have yf : (8 : Int) ≤ fr := by omega
          have MZ := Lib.hid (((Mem.start w).alloc #[.int .u32 0, .int .u32 0, .int .i64 5] 236).alloc' (b := w.heap.size + 1) (by simp) #[.int .u32 0, .int .u32 0, .int .i64 5] 236)
          go_enter Tryz.func148, Tryz.ntmps148
          go_wp2_with fail
          refine (HCA.out _).mono ?_
          rintro e w3 ⟨rfl, rfl⟩
          go_wp2_with fail
          refine (HP.out _).mono ?_
          rintro e w3 ⟨rfl, rfl⟩
          go_wp2_with fail
          refine (HK.out _).mono ?_
          rintro e w3 ⟨rfl, rfl⟩
          go_wp2
          refine bodyPost_ret (Bx.res_c Tryz.results148 rfl (load_tr (MZ.out.blk 0 rfl))) rfl ?_
          exact ⟨0, 0, 5, rfl, by decide, by decide, by decide, by decide, (fun h => by cases h), MZ.out.held⟩
        · have yf : ¬ (8 : Int) ≤ fr := by omega
          obtain ⟨m, hm⟩ : ∃ m, va % 128 = m := ⟨_, rfl⟩
          have hm2 : (va : Int).tmod 128 = (m : Int) := by rw [Int.tmod_eq_emod_of_nonneg (by omega)]; omega
          have ym : (m : Int) ≤ 127 := by omega
          obtain ⟨ad, had⟩ : ∃ ad, fr * 128 + m = ad := ⟨_, rfl⟩
          have had2 : ad < 1024 := by omega
          have yad : (fr : Int) * 128 + (m : Int) = (ad : Int) := by omega
          have yad2 : (ad : Int) < 1024 := by omega
          have yfr : (fr : Int) ≤ 7 := by omega
          clear had hm
          have MZ := Lib.hid (((Mem.start w).alloc #[.int .u32 (ad : Int), .int .u32 (en : Int), .int .i64 0] 236).alloc' (b := w.heap.size + 1) (by simp) #[.int .u32 0, .int .u32 0, .int .i64 5] 236)
          go_enter Tryz.func148, Tryz.ntmps148
          go_wp2_with fail
          refine (HCA.out _).mono ?_
          rintro e w3 ⟨rfl, rfl⟩
          go_wp2_with fail
          refine (HP.out _).mono ?_
          rintro e w3 ⟨rfl, rfl⟩
          go_wp2_with fail
          refine (HK.out _).mono ?_
          rintro e w3 ⟨rfl, rfl⟩
          go_wp2
          refine bodyPost_ret (Bx.res_c Tryz.results148 rfl (load_tr (MZ.out.blk 0 rfl))) rfl ?_
          exact ⟨ad, en, 0, rfl, by omega, by omega, by decide, by decide, (fun _ => had2), MZ.out.held⟩
set_option maxHeartbeats 8000000 in
theorem walk3 (A : Option Addr) (cap r va : Nat) (L : List Int) (hr : r < 4294967296) (hva : va < 4294967296) (hcap : 256 ≤ cap) (hL : MemOK L) (w : World) (h : Sl 1 uC w A 256 L) :
    Calls Tryz.prog 148 #[.slice A 256 cap, .int .u32 (r : Int), .int .u32 (va : Int), .int .i64 3] w (TrTo w) := by
  have HCA := Lib.hid fun w => (show Calls Tryz.prog 147 #[.int .i64 3] w (fun e w' => e = .returned (.int .i64 6) ∧ w = w') from cause_any 3 (by decide) w)
  have HK := Lib.hid fun w => (show Calls Tryz.prog 145 #[.int .i64 3] w (fun e w' => e = .returned (.bool true) ∧ w = w') from known_any 3 (by decide) w)
  have HP := Lib.hid fun w => pages_any A cap w
  by_cases hv : 4096 ≤ va
  · have yv : (4096 : Int) ≤ va := by omega
    clear hL h hv
    have MZ := Lib.hid (((Mem.start w).alloc #[.int .u32 0, .int .u32 0, .int .i64 6] 236).alloc' (b := w.heap.size + 1) (by simp) #[.int .u32 0, .int .u32 0, .int .i64 6] 236)
    go_enter Tryz.func148, Tryz.ntmps148
    go_wp2_with fail
    refine (HCA.out _).mono ?_
    rintro e w3 ⟨rfl, rfl⟩
    go_wp2_with fail
    refine (HP.out _).mono ?_
    rintro e w3 ⟨rfl, rfl⟩
    go_wp2_with fail
    refine (HK.out _).mono ?_
    rintro e w3 ⟨rfl, rfl⟩
    go_wp2
    refine bodyPost_ret (Bx.res_c Tryz.results148 rfl (load_tr (MZ.out.blk 0 rfl))) rfl ?_
    exact ⟨0, 0, 6, rfl, by decide, by decide, by decide, by decide, (fun h => by cases h), MZ.out.held⟩
  · have yv : ¬ (4096 : Int) ≤ va := by omega
    by_cases hr8 : 8 ≤ r
    · have yr : (8 : Int) ≤ r := by omega
      clear hL h hv hr8
      have MZ := Lib.hid (((Mem.start w).alloc #[.int .u32 0, .int .u32 0, .int .i64 6] 236).alloc' (b := w.heap.size + 1) (by simp) #[.int .u32 0, .int .u32 0, .int .i64 6] 236)
      go_enter Tryz.func148, Tryz.ntmps148
      go_wp2_with fail
      refine (HCA.out _).mono ?_
      rintro e w3 ⟨rfl, rfl⟩
      go_wp2_with fail
      refine (HP.out _).mono ?_
      rintro e w3 ⟨rfl, rfl⟩
      go_wp2_with fail
      refine (HK.out _).mono ?_
      rintro e w3 ⟨rfl, rfl⟩
      go_wp2
      refine bodyPost_ret (Bx.res_c Tryz.results148 rfl (load_tr (MZ.out.blk 0 rfl))) rfl ?_
      exact ⟨0, 0, 6, rfl, by decide, by decide, by decide, by decide, (fun h => by cases h), MZ.out.held⟩
    · have yr : ¬ (8 : Int) ≤ r := by omega
      obtain ⟨p, hp⟩ : ∃ p, va / 128 = p := ⟨_, rfl⟩
      have hp2 : (va : Int).tdiv 128 = (p : Int) := by rw [Int.tdiv_eq_ediv_of_nonneg (by omega)]; omega
      have hp3 : p ≤ 31 := by omega
      obtain ⟨en, hen⟩ : ∃ en, r * 128 + 4 * p = en := ⟨_, rfl⟩
      have yen : (r : Int) * 128 + 4 * (p : Int) = (en : Int) := by omega
      have hen2 : en < 1024 := by omega
      have yen2 : (en : Int) < 1024 := by omega
      obtain ⟨q, hq⟩ : ∃ q, en / 4 = q := ⟨_, rfl⟩
      have hd : (en : Int).tdiv 4 = (q : Int) := by rw [Int.tdiv_eq_ediv_of_nonneg (by omega)]; omega
      have z1 : (q : Int) < 256 := by omega
      have z2 : (0 : Int) ≤ q := by omega
      have yp : (p : Int) ≤ 31 := by omega
      have yr7 : (r : Int) ≤ 7 := by omega
      obtain ⟨b, off, rfl, hb, c0⟩ := wordAt h (Held.refl w) (k := q) (by omega)
      have hb1 : ¬ b = w.heap.size := by omega
      have hb2 : ¬ b = w.heap.size + 1 := by omega
      have ycap : (256 : Int) ≤ cap := by omega
      have hx9 : Wd (L.getD q 0) := by
        by_cases hj : q < L.length
        · have e : L.getD q 0 = L[q] := by simp [hj]
          rw [e]; exact hL.bd _ (List.getElem_mem _)
        · have e : L.getD q 0 = 0 := by simp [hj]
          rw [e]; exact ⟨by decide, by decide⟩
      obtain ⟨x, hx⟩ : ∃ x, L.getD q 0 = x := ⟨_, rfl⟩
      rw [hx] at c0 hx9
      have hx0 : 0 ≤ x := hx9.1
      have hx1 : x ≤ 4294967295 := hx9.2
      obtain ⟨fr, hfr0, hfr1⟩ := wd_nat (bits_wd .and (x / 256) 255)
      clear hL h hv hr8 hq hx hx9 hp hen
      by_cases t1 : bits .and .u32 x 1 = 0
      · have MZ := Lib.hid (((Mem.start w).alloc #[.int .u32 0, .int .u32 0, .int .i64 6] 236).alloc' (b := w.heap.size + 1) (by simp) #[.int .u32 0, .int .u32 0, .int .i64 6] 236)
        go_enter Tryz.func148, Tryz.ntmps148
        go_wp2_with fail
        refine (HCA.out _).mono ?_
        rintro e w3 ⟨rfl, rfl⟩
        go_wp2_with fail
        refine (HP.out _).mono ?_
        rintro e w3 ⟨rfl, rfl⟩
        go_wp2_with fail
        refine (HK.out _).mono ?_
        rintro e w3 ⟨rfl, rfl⟩
        go_wp2
        refine bodyPost_ret (Bx.res_c Tryz.results148 rfl (load_tr (MZ.out.blk 0 rfl))) rfl ?_
        exact ⟨0, 0, 6, rfl, by decide, by decide, by decide, by decide, (fun h => by cases h), MZ.out.held⟩
      · have tb1 : (bits .and .u32 x 1 == 0) = false := by rw [beq_eq_false_iff_ne]; exact t1
        by_cases t2 : bits .and .u32 x 2 = 0
        · have MZ := Lib.hid (((Mem.start w).alloc #[.int .u32 0, .int .u32 0, .int .i64 6] 236).alloc' (b := w.heap.size + 1) (by simp) #[.int .u32 0, .int .u32 0, .int .i64 6] 236)
          go_enter Tryz.func148, Tryz.ntmps148
          go_wp2_with fail
          refine (HCA.out _).mono ?_
          rintro e w3 ⟨rfl, rfl⟩
          go_wp2_with fail
          refine (HP.out _).mono ?_
          rintro e w3 ⟨rfl, rfl⟩
          go_wp2_with fail
          refine (HK.out _).mono ?_
          rintro e w3 ⟨rfl, rfl⟩
          go_wp2
          refine bodyPost_ret (Bx.res_c Tryz.results148 rfl (load_tr (MZ.out.blk 0 rfl))) rfl ?_
          exact ⟨0, 0, 6, rfl, by decide, by decide, by decide, by decide, (fun h => by cases h), MZ.out.held⟩
        · have tb2 : (bits .and .u32 x 2 == 0) = false := by rw [beq_eq_false_iff_ne]; exact t2
          by_cases hfr : 8 ≤ fr
          · have yf : (8 : Int) ≤ fr := by omega
            have MZ := Lib.hid (((Mem.start w).alloc #[.int .u32 0, .int .u32 0, .int .i64 6] 236).alloc' (b := w.heap.size + 1) (by simp) #[.int .u32 0, .int .u32 0, .int .i64 6] 236)
            go_enter Tryz.func148, Tryz.ntmps148
            go_wp2_with fail
            refine (HCA.out _).mono ?_
            rintro e w3 ⟨rfl, rfl⟩
            go_wp2_with fail
            refine (HP.out _).mono ?_
            rintro e w3 ⟨rfl, rfl⟩
            go_wp2_with fail
            refine (HK.out _).mono ?_
            rintro e w3 ⟨rfl, rfl⟩
            go_wp2
            refine bodyPost_ret (Bx.res_c Tryz.results148 rfl (load_tr (MZ.out.blk 0 rfl))) rfl ?_
            exact ⟨0, 0, 6, rfl, by decide, by decide, by decide, by decide, (fun h => by cases h), MZ.out.held⟩
          · have yf : ¬ (8 : Int) ≤ fr := by omega
            obtain ⟨m, hm⟩ : ∃ m, va % 128 = m := ⟨_, rfl⟩
            have hm2 : (va : Int).tmod 128 = (m : Int) := by rw [Int.tmod_eq_emod_of_nonneg (by omega)]; omega
            have ym : (m : Int) ≤ 127 := by omega
            obtain ⟨ad, had⟩ : ∃ ad, fr * 128 + m = ad := ⟨_, rfl⟩
            have had2 : ad < 1024 := by omega
            have yad : (fr : Int) * 128 + (m : Int) = (ad : Int) := by omega
            have yad2 : (ad : Int) < 1024 := by omega
            have yfr : (fr : Int) ≤ 7 := by omega
            clear had hm
            have MZ := Lib.hid (((Mem.start w).alloc #[.int .u32 (ad : Int), .int .u32 (en : Int), .int .i64 0] 236).alloc' (b := w.heap.size + 1) (by simp) #[.int .u32 0, .int .u32 0, .int .i64 6] 236)
            go_enter Tryz.func148, Tryz.ntmps148
            go_wp2_with fail
            refine (HCA.out _).mono ?_
            rintro e w3 ⟨rfl, rfl⟩
            go_wp2_with fail
            refine (HP.out _).mono ?_
            rintro e w3 ⟨rfl, rfl⟩
            go_wp2_with fail
            refine (HK.out _).mono ?_
            rintro e w3 ⟨rfl, rfl⟩
            go_wp2
            refine bodyPost_ret (Bx.res_c Tryz.results148 rfl (load_tr (MZ.out.blk 0 rfl))) rfl ?_
            exact ⟨ad, en, 0, rfl, by omega, by omega, by decide, by decide, (fun _ => had2), MZ.out.held⟩
end Ma
end Go.Proofs.YtdacgdokbfcgdaaGreat

namespace Go.Proofs.YtdacgdokbfcgdaaGreat
open Go.RowKit Go.BigFrame Go.Sort Go.Lib
namespace Ma
/-- What an access leaves. -/
def RchTo (W : World) (g cap : Nat) (F : List Ck) (e : Ending) (w' : World) : Prop := ∃ (ad : Nat) (ca : Int) (L' : List Int), e = .returned (.tuple #[.int .u32 (ad : Int), .int .i64 ca]) ∧ ad < 4294967296 ∧ 0 ≤ ca ∧ ca ≤ 100 ∧ (ca = 0 → ad < 1024) ∧ MemOK L' ∧ Mem W w' (memR W.heap.size g cap L' :: F)
/-- An access in kernel mode. -/
def rchK (va size : Nat) (c : Int) : Int × Int := if va % size ≠ 0 then (0, 3) else if inM va size = true then ((va : Int), 0) else (0, c)
set_option maxHeartbeats 4000000 in
theorem reach4_1 (W : World) (g cap va : Nat) (C L : List Int) (F : List Ck) (hva : va < 4294967296) (hC : CpuOK C) (hL : MemOK L) (w : World) (hM : Mem W w (memR W.heap.size g cap L :: F)) :
    Calls Tryz.prog 116 #[.agg (wA C), .slice (some ⟨g, 0, none⟩) 256 cap, .int .u32 (va : Int), .int .i64 4, .int .i64 1] w (RchTo W g cap F) := by
  have HK := Lib.hid fun w => (show Calls Tryz.prog 145 #[.int .i64 1] w (fun e w' => e = .returned (.bool true) ∧ w = w') from known_any 1 (by decide) w)
  have HCA := Lib.hid fun w => (show Calls Tryz.prog 147 #[.int .i64 1] w (fun e w' => e = .returned (.int .i64 4) ∧ w = w') from cause_any 1 (by decide) w)
  have HW := Lib.hid fun w => within4 (some ⟨g, 0, none⟩) cap va hva w
  have HPG := Lib.hid fun w => paged_any C hC w
  have hcap := memCap hM
  have c23 := wA_at (L := C) (j := 23) (by rw [hC.len]; decide)
  obtain ⟨rt, hrt, hrt2⟩ := wd_nat (hC.at_ 23)
  rw [hrt] at c23
  have HZ : Is (wA C).size 25 := ⟨by rw [wA_size]; exact hC.len⟩
  have HWK := Lib.hid fun (w' : World) (h : Sl 1 uC w' (some ⟨g, 0, none⟩) 256 L) => walk1 (some ⟨g, 0, none⟩) cap rt va L hrt2 hva hcap hL w' h
  have HMK := Lib.hid fun (en : Nat) (F' : List Ck) (hen : en < 4294967296) (w' : World) (h : Mem W w' (memR W.heap.size g cap L :: F')) => mark_any W g cap en 1 L F' hen (by decide) hL w' h
  have HOK := Lib.hid hL
  have M0 := Lib.hid hM
  have M1 := Lib.hid (hM.allocF (b := w.heap.size) rfl (wA C) 44)
  have zva : (va : Int) ≤ 4294967295 := by omega
  obtain ⟨pg, hpg⟩ : ∃ pg, (bits .and .u32 (C.getD 17 0) 5 == 4) = pg := ⟨_, rfl⟩
  rw [hpg] at HPG
  obtain ⟨cA, hcA⟩ : ∃ cA, wA C = cA := ⟨_, rfl⟩
  rw [hcA] at c23 M1 HZ HPG ⊢
  unfold RchTo
  clear hM hL hC hcA hpg hrt hrt2
  have hm : (va : Int).tmod 4 = ((va % 4 : Nat) : Int) := by rw [Int.tmod_eq_emod_of_nonneg (by omega)]; omega
  by_cases hal : va % 4 = 0
  · have z0 : (va : Int).tmod 4 = 0 := by rw [hm, hal]; rfl
    clear hm
    cases pg
    · go_enter Tryz.func116, Tryz.ntmps116
      go_wp2_with fail
      refine (HK.out _).mono ?_
      rintro e w3 ⟨rfl, rfl⟩
      go_wp2_with (show wpList _ _ _ ((⟨_, Op.load 44 _, _, _, _, _⟩ : Oper) :: _) _ _; refine Mem.go_loadAll 44 rfl rfl rfl 0 M1.out rfl uCpu (by rw [HZ.out]; exact sCpu) ?_)
      refine (HPG.out _).mono ?_
      rintro e w4 ⟨rfl, h4⟩
      have M4 := Lib.hid (M1.out.keep h4)
      clear h4
      by_cases hin : inM va 4 = true
      · rw [hin] at HW
        have hlt : va < 1024 := by
          unfold inM at hin
          simp only [Bool.and_eq_true, decide_eq_true_eq] at hin
          exact hin.2
        go_wp2_with fail
        refine (HW.out _).mono ?_
        rintro e w5 ⟨rfl, rfl⟩
        go_wp2
        go_ret2
        exact ⟨va, 0, L, rfl, by omega, by decide, by decide, (fun _ => hlt), HOK.out, M4.out.rest⟩
      · have hf : inM va 4 = false := by simpa using hin
        rw [hf] at HW
        go_wp2_with fail
        refine (HW.out _).mono ?_
        rintro e w5 ⟨rfl, rfl⟩
        go_wp2_with fail
        refine (HCA.out _).mono ?_
        rintro e w5 ⟨rfl, rfl⟩
        go_wp2
        go_ret2
        exact ⟨0, 4, L, rfl, by decide, by decide, by decide, (fun h => by cases h), HOK.out, M4.out.rest⟩
    · go_enter Tryz.func116, Tryz.ntmps116
      go_wp2_with fail
      refine (HK.out _).mono ?_
      rintro e w3 ⟨rfl, rfl⟩
      go_wp2_with (show wpList _ _ _ ((⟨_, Op.load 44 _, _, _, _, _⟩ : Oper) :: _) _ _; refine Mem.go_loadAll 44 rfl rfl rfl 0 M1.out rfl uCpu (by rw [HZ.out]; exact sCpu) ?_)
      refine (HPG.out _).mono ?_
      rintro e w4 ⟨rfl, h4⟩
      have M4 := Lib.hid (M1.out.keep h4)
      clear h4
      have x23 := M4.out.cell 0 rfl 23 c23
      go_wp2_with fail
      refine (HWK.out _ (memSl M4.out.rest)).mono ?_
      rintro e w5 ⟨ad, en, ca, rfl, had, hen, hca0, hca1, had2, h5⟩
      have M5 := Lib.hid ((M4.out.keep h5).allocF (b := w5.heap.size) rfl #[.int .u32 (ad : Int), .int .u32 (en : Int), .int .i64 ca] 236)
      clear h5 x23 M4
      by_cases hca : ca = 0
      · subst hca
        have M6 := M5.out.permut (H' := memR W.heap.size g cap L :: .box w5.heap.size #[.int .u32 (ad : Int), .int .u32 (en : Int), .int .i64 0] 236 :: .box w.heap.size cA 44 :: F) ((List.Perm.cons _ (List.Perm.swap _ _ _)).trans (List.Perm.swap _ _ _))
        have HMK2 := Lib.hid (HMK.out en _ hen _ M6)
        clear M6
        go_wp2_with fail
        refine HMK2.out.mono ?_
        rintro e w7 ⟨rfl, L2, hL2, M7⟩
        have HL2 := Lib.hid hL2
        obtain ⟨⟨t0, t1, t2⟩, _, _⟩ := M7.box3 1 rfl
        have M8 := Lib.hid ((M7.permut ((List.Perm.swap _ _ _).trans (List.Perm.cons _ (List.Perm.swap _ _ _)))).rest.rest)
        clear hL2 M7 HMK2
        go_wp2
        go_ret2
        exact ⟨ad, 0, L2, rfl, had, by decide, by decide, (fun _ => had2 trivial), HL2.out, M8.out⟩
      · have zca : (ca == 0) = false := by rw [beq_eq_false_iff_ne]; exact hca
        have M6 := Lib.hid M5.out.rest.rest
        go_wp2
        go_big_quiet (fail)
        go_wp2
        go_ret2
        exact ⟨0, ca, L, rfl, by decide, hca0, hca1, (fun h => absurd h hca), HOK.out, M6.out.keep ((Held.refl _).drewN _)⟩
  · obtain ⟨m, hm2⟩ : ∃ m, va % 4 = m := ⟨_, rfl⟩
    rw [hm2] at hm hal
    have z0 : ((m : Int) == 0) = false := by rw [beq_eq_false_iff_ne]; omega
    have z1 : (m : Int) ≤ 3 := by omega
    have M3 := Lib.hid M1.out.rest
    clear hm2 hal
    go_enter Tryz.func116, Tryz.ntmps116
    go_wp2_with fail
    refine (HK.out _).mono ?_
    rintro e w3 ⟨rfl, rfl⟩
    go_wp2
    go_ret2
    exact ⟨0, 3, L, rfl, by decide, by decide, by decide, (fun h => by cases h), HOK.out, M3.out⟩
set_option maxHeartbeats 4000000 in
theorem reach1_2 (W : World) (g cap va : Nat) (C L : List Int) (F : List Ck) (hva : va < 4294967296) (hC : CpuOK C) (hL : MemOK L) (w : World) (hM : Mem W w (memR W.heap.size g cap L :: F)) :
    Calls Tryz.prog 116 #[.agg (wA C), .slice (some ⟨g, 0, none⟩) 256 cap, .int .u32 (va : Int), .int .i64 1, .int .i64 2] w (RchTo W g cap F) := by
  have HK := Lib.hid fun w => (show Calls Tryz.prog 145 #[.int .i64 2] w (fun e w' => e = .returned (.bool true) ∧ w = w') from known_any 2 (by decide) w)
  have HCA := Lib.hid fun w => (show Calls Tryz.prog 147 #[.int .i64 2] w (fun e w' => e = .returned (.int .i64 5) ∧ w = w') from cause_any 2 (by decide) w)
  have HW := Lib.hid fun w => within1 (some ⟨g, 0, none⟩) cap va hva w
  have HPG := Lib.hid fun w => paged_any C hC w
  have hcap := memCap hM
  have c23 := wA_at (L := C) (j := 23) (by rw [hC.len]; decide)
  obtain ⟨rt, hrt, hrt2⟩ := wd_nat (hC.at_ 23)
  rw [hrt] at c23
  have HZ : Is (wA C).size 25 := ⟨by rw [wA_size]; exact hC.len⟩
  have HWK := Lib.hid fun (w' : World) (h : Sl 1 uC w' (some ⟨g, 0, none⟩) 256 L) => walk2 (some ⟨g, 0, none⟩) cap rt va L hrt2 hva hcap hL w' h
  have HMK := Lib.hid fun (en : Nat) (F' : List Ck) (hen : en < 4294967296) (w' : World) (h : Mem W w' (memR W.heap.size g cap L :: F')) => mark_any W g cap en 2 L F' hen (by decide) hL w' h
  have HOK := Lib.hid hL
  have M0 := Lib.hid hM
  have M1 := Lib.hid (hM.allocF (b := w.heap.size) rfl (wA C) 44)
  have zva : (va : Int) ≤ 4294967295 := by omega
  obtain ⟨pg, hpg⟩ : ∃ pg, (bits .and .u32 (C.getD 17 0) 5 == 4) = pg := ⟨_, rfl⟩
  rw [hpg] at HPG
  obtain ⟨cA, hcA⟩ : ∃ cA, wA C = cA := ⟨_, rfl⟩
  rw [hcA] at c23 M1 HZ HPG ⊢
  unfold RchTo
  clear hM hL hC hcA hpg hrt hrt2
  have z0 : (va : Int).tmod 1 = 0 := by rw [Int.tmod_eq_emod_of_nonneg (by omega)]; omega
  cases pg
  · go_enter Tryz.func116, Tryz.ntmps116
    go_wp2_with fail
    refine (HK.out _).mono ?_
    rintro e w3 ⟨rfl, rfl⟩
    go_wp2_with (show wpList _ _ _ ((⟨_, Op.load 44 _, _, _, _, _⟩ : Oper) :: _) _ _; refine Mem.go_loadAll 44 rfl rfl rfl 0 M1.out rfl uCpu (by rw [HZ.out]; exact sCpu) ?_)
    refine (HPG.out _).mono ?_
    rintro e w4 ⟨rfl, h4⟩
    have M4 := Lib.hid (M1.out.keep h4)
    clear h4
    by_cases hin : inM va 1 = true
    · rw [hin] at HW
      have hlt : va < 1024 := by
        unfold inM at hin
        simp only [Bool.and_eq_true, decide_eq_true_eq] at hin
        exact hin.2
      go_wp2_with fail
      refine (HW.out _).mono ?_
      rintro e w5 ⟨rfl, rfl⟩
      go_wp2
      go_ret2
      exact ⟨va, 0, L, rfl, by omega, by decide, by decide, (fun _ => hlt), HOK.out, M4.out.rest⟩
    · have hf : inM va 1 = false := by simpa using hin
      rw [hf] at HW
      go_wp2_with fail
      refine (HW.out _).mono ?_
      rintro e w5 ⟨rfl, rfl⟩
      go_wp2_with fail
      refine (HCA.out _).mono ?_
      rintro e w5 ⟨rfl, rfl⟩
      go_wp2
      go_ret2
      exact ⟨0, 5, L, rfl, by decide, by decide, by decide, (fun h => by cases h), HOK.out, M4.out.rest⟩
  · go_enter Tryz.func116, Tryz.ntmps116
    go_wp2_with fail
    refine (HK.out _).mono ?_
    rintro e w3 ⟨rfl, rfl⟩
    go_wp2_with (show wpList _ _ _ ((⟨_, Op.load 44 _, _, _, _, _⟩ : Oper) :: _) _ _; refine Mem.go_loadAll 44 rfl rfl rfl 0 M1.out rfl uCpu (by rw [HZ.out]; exact sCpu) ?_)
    refine (HPG.out _).mono ?_
    rintro e w4 ⟨rfl, h4⟩
    have M4 := Lib.hid (M1.out.keep h4)
    clear h4
    have x23 := M4.out.cell 0 rfl 23 c23
    go_wp2_with fail
    refine (HWK.out _ (memSl M4.out.rest)).mono ?_
    rintro e w5 ⟨ad, en, ca, rfl, had, hen, hca0, hca1, had2, h5⟩
    have M5 := Lib.hid ((M4.out.keep h5).allocF (b := w5.heap.size) rfl #[.int .u32 (ad : Int), .int .u32 (en : Int), .int .i64 ca] 236)
    clear h5 x23 M4
    by_cases hca : ca = 0
    · subst hca
      have M6 := M5.out.permut (H' := memR W.heap.size g cap L :: .box w5.heap.size #[.int .u32 (ad : Int), .int .u32 (en : Int), .int .i64 0] 236 :: .box w.heap.size cA 44 :: F) ((List.Perm.cons _ (List.Perm.swap _ _ _)).trans (List.Perm.swap _ _ _))
      have HMK2 := Lib.hid (HMK.out en _ hen _ M6)
      clear M6
      go_wp2_with fail
      refine HMK2.out.mono ?_
      rintro e w7 ⟨rfl, L2, hL2, M7⟩
      have HL2 := Lib.hid hL2
      obtain ⟨⟨t0, t1, t2⟩, _, _⟩ := M7.box3 1 rfl
      have M8 := Lib.hid ((M7.permut ((List.Perm.swap _ _ _).trans (List.Perm.cons _ (List.Perm.swap _ _ _)))).rest.rest)
      clear hL2 M7 HMK2
      go_wp2
      go_ret2
      exact ⟨ad, 0, L2, rfl, had, by decide, by decide, (fun _ => had2 trivial), HL2.out, M8.out⟩
    · have zca : (ca == 0) = false := by rw [beq_eq_false_iff_ne]; exact hca
      have M6 := Lib.hid M5.out.rest.rest
      go_wp2
      go_big_quiet (fail)
      go_wp2
      go_ret2
      exact ⟨0, ca, L, rfl, by decide, hca0, hca1, (fun h => absurd h hca), HOK.out, M6.out.keep ((Held.refl _).drewN _)⟩
set_option maxHeartbeats 4000000 in
theorem reach4_2 (W : World) (g cap va : Nat) (C L : List Int) (F : List Ck) (hva : va < 4294967296) (hC : CpuOK C) (hL : MemOK L) (w : World) (hM : Mem W w (memR W.heap.size g cap L :: F)) :
    Calls Tryz.prog 116 #[.agg (wA C), .slice (some ⟨g, 0, none⟩) 256 cap, .int .u32 (va : Int), .int .i64 4, .int .i64 2] w (RchTo W g cap F) := by
  have HK := Lib.hid fun w => (show Calls Tryz.prog 145 #[.int .i64 2] w (fun e w' => e = .returned (.bool true) ∧ w = w') from known_any 2 (by decide) w)
  have HCA := Lib.hid fun w => (show Calls Tryz.prog 147 #[.int .i64 2] w (fun e w' => e = .returned (.int .i64 5) ∧ w = w') from cause_any 2 (by decide) w)
  have HW := Lib.hid fun w => within4 (some ⟨g, 0, none⟩) cap va hva w
  have HPG := Lib.hid fun w => paged_any C hC w
  have hcap := memCap hM
  have c23 := wA_at (L := C) (j := 23) (by rw [hC.len]; decide)
  obtain ⟨rt, hrt, hrt2⟩ := wd_nat (hC.at_ 23)
  rw [hrt] at c23
  have HZ : Is (wA C).size 25 := ⟨by rw [wA_size]; exact hC.len⟩
  have HWK := Lib.hid fun (w' : World) (h : Sl 1 uC w' (some ⟨g, 0, none⟩) 256 L) => walk2 (some ⟨g, 0, none⟩) cap rt va L hrt2 hva hcap hL w' h
  have HMK := Lib.hid fun (en : Nat) (F' : List Ck) (hen : en < 4294967296) (w' : World) (h : Mem W w' (memR W.heap.size g cap L :: F')) => mark_any W g cap en 2 L F' hen (by decide) hL w' h
  have HOK := Lib.hid hL
  have M0 := Lib.hid hM
  have M1 := Lib.hid (hM.allocF (b := w.heap.size) rfl (wA C) 44)
  have zva : (va : Int) ≤ 4294967295 := by omega
  obtain ⟨pg, hpg⟩ : ∃ pg, (bits .and .u32 (C.getD 17 0) 5 == 4) = pg := ⟨_, rfl⟩
  rw [hpg] at HPG
  obtain ⟨cA, hcA⟩ : ∃ cA, wA C = cA := ⟨_, rfl⟩
  rw [hcA] at c23 M1 HZ HPG ⊢
  unfold RchTo
  clear hM hL hC hcA hpg hrt hrt2
  have hm : (va : Int).tmod 4 = ((va % 4 : Nat) : Int) := by rw [Int.tmod_eq_emod_of_nonneg (by omega)]; omega
  by_cases hal : va % 4 = 0
  · have z0 : (va : Int).tmod 4 = 0 := by rw [hm, hal]; rfl
    clear hm
    cases pg
    · go_enter Tryz.func116, Tryz.ntmps116
      go_wp2_with fail
      refine (HK.out _).mono ?_
      rintro e w3 ⟨rfl, rfl⟩
      go_wp2_with (show wpList _ _ _ ((⟨_, Op.load 44 _, _, _, _, _⟩ : Oper) :: _) _ _; refine Mem.go_loadAll 44 rfl rfl rfl 0 M1.out rfl uCpu (by rw [HZ.out]; exact sCpu) ?_)
      refine (HPG.out _).mono ?_
      rintro e w4 ⟨rfl, h4⟩
      have M4 := Lib.hid (M1.out.keep h4)
      clear h4
      by_cases hin : inM va 4 = true
      · rw [hin] at HW
        have hlt : va < 1024 := by
          unfold inM at hin
          simp only [Bool.and_eq_true, decide_eq_true_eq] at hin
          exact hin.2
        go_wp2_with fail
        refine (HW.out _).mono ?_
        rintro e w5 ⟨rfl, rfl⟩
        go_wp2
        go_ret2
        exact ⟨va, 0, L, rfl, by omega, by decide, by decide, (fun _ => hlt), HOK.out, M4.out.rest⟩
      · have hf : inM va 4 = false := by simpa using hin
        rw [hf] at HW
        go_wp2_with fail
        refine (HW.out _).mono ?_
        rintro e w5 ⟨rfl, rfl⟩
        go_wp2_with fail
        refine (HCA.out _).mono ?_
        rintro e w5 ⟨rfl, rfl⟩
        go_wp2
        go_ret2
        exact ⟨0, 5, L, rfl, by decide, by decide, by decide, (fun h => by cases h), HOK.out, M4.out.rest⟩
    · go_enter Tryz.func116, Tryz.ntmps116
      go_wp2_with fail
      refine (HK.out _).mono ?_
      rintro e w3 ⟨rfl, rfl⟩
      go_wp2_with (show wpList _ _ _ ((⟨_, Op.load 44 _, _, _, _, _⟩ : Oper) :: _) _ _; refine Mem.go_loadAll 44 rfl rfl rfl 0 M1.out rfl uCpu (by rw [HZ.out]; exact sCpu) ?_)
      refine (HPG.out _).mono ?_
      rintro e w4 ⟨rfl, h4⟩
      have M4 := Lib.hid (M1.out.keep h4)
      clear h4
      have x23 := M4.out.cell 0 rfl 23 c23
      go_wp2_with fail
      refine (HWK.out _ (memSl M4.out.rest)).mono ?_
      rintro e w5 ⟨ad, en, ca, rfl, had, hen, hca0, hca1, had2, h5⟩
      have M5 := Lib.hid ((M4.out.keep h5).allocF (b := w5.heap.size) rfl #[.int .u32 (ad : Int), .int .u32 (en : Int), .int .i64 ca] 236)
      clear h5 x23 M4
      by_cases hca : ca = 0
      · subst hca
        have M6 := M5.out.permut (H' := memR W.heap.size g cap L :: .box w5.heap.size #[.int .u32 (ad : Int), .int .u32 (en : Int), .int .i64 0] 236 :: .box w.heap.size cA 44 :: F) ((List.Perm.cons _ (List.Perm.swap _ _ _)).trans (List.Perm.swap _ _ _))
        have HMK2 := Lib.hid (HMK.out en _ hen _ M6)
        clear M6
        go_wp2_with fail
        refine HMK2.out.mono ?_
        rintro e w7 ⟨rfl, L2, hL2, M7⟩
        have HL2 := Lib.hid hL2
        obtain ⟨⟨t0, t1, t2⟩, _, _⟩ := M7.box3 1 rfl
        have M8 := Lib.hid ((M7.permut ((List.Perm.swap _ _ _).trans (List.Perm.cons _ (List.Perm.swap _ _ _)))).rest.rest)
        clear hL2 M7 HMK2
        go_wp2
        go_ret2
        exact ⟨ad, 0, L2, rfl, had, by decide, by decide, (fun _ => had2 trivial), HL2.out, M8.out⟩
      · have zca : (ca == 0) = false := by rw [beq_eq_false_iff_ne]; exact hca
        have M6 := Lib.hid M5.out.rest.rest
        go_wp2
        go_big_quiet (fail)
        go_wp2
        go_ret2
        exact ⟨0, ca, L, rfl, by decide, hca0, hca1, (fun h => absurd h hca), HOK.out, M6.out.keep ((Held.refl _).drewN _)⟩
  · obtain ⟨m, hm2⟩ : ∃ m, va % 4 = m := ⟨_, rfl⟩
    rw [hm2] at hm hal
    have z0 : ((m : Int) == 0) = false := by rw [beq_eq_false_iff_ne]; omega
    have z1 : (m : Int) ≤ 3 := by omega
    have M3 := Lib.hid M1.out.rest
    clear hm2 hal
    go_enter Tryz.func116, Tryz.ntmps116
    go_wp2_with fail
    refine (HK.out _).mono ?_
    rintro e w3 ⟨rfl, rfl⟩
    go_wp2
    go_ret2
    exact ⟨0, 3, L, rfl, by decide, by decide, by decide, (fun h => by cases h), HOK.out, M3.out⟩
set_option maxHeartbeats 4000000 in
theorem reach1_3 (W : World) (g cap va : Nat) (C L : List Int) (F : List Ck) (hva : va < 4294967296) (hC : CpuOK C) (hL : MemOK L) (w : World) (hM : Mem W w (memR W.heap.size g cap L :: F)) :
    Calls Tryz.prog 116 #[.agg (wA C), .slice (some ⟨g, 0, none⟩) 256 cap, .int .u32 (va : Int), .int .i64 1, .int .i64 3] w (RchTo W g cap F) := by
  have HK := Lib.hid fun w => (show Calls Tryz.prog 145 #[.int .i64 3] w (fun e w' => e = .returned (.bool true) ∧ w = w') from known_any 3 (by decide) w)
  have HCA := Lib.hid fun w => (show Calls Tryz.prog 147 #[.int .i64 3] w (fun e w' => e = .returned (.int .i64 6) ∧ w = w') from cause_any 3 (by decide) w)
  have HW := Lib.hid fun w => within1 (some ⟨g, 0, none⟩) cap va hva w
  have HPG := Lib.hid fun w => paged_any C hC w
  have hcap := memCap hM
  have c23 := wA_at (L := C) (j := 23) (by rw [hC.len]; decide)
  obtain ⟨rt, hrt, hrt2⟩ := wd_nat (hC.at_ 23)
  rw [hrt] at c23
  have HZ : Is (wA C).size 25 := ⟨by rw [wA_size]; exact hC.len⟩
  have HWK := Lib.hid fun (w' : World) (h : Sl 1 uC w' (some ⟨g, 0, none⟩) 256 L) => walk3 (some ⟨g, 0, none⟩) cap rt va L hrt2 hva hcap hL w' h
  have HMK := Lib.hid fun (en : Nat) (F' : List Ck) (hen : en < 4294967296) (w' : World) (h : Mem W w' (memR W.heap.size g cap L :: F')) => mark_any W g cap en 3 L F' hen (by decide) hL w' h
  have HOK := Lib.hid hL
  have M0 := Lib.hid hM
  have M1 := Lib.hid (hM.allocF (b := w.heap.size) rfl (wA C) 44)
  have zva : (va : Int) ≤ 4294967295 := by omega
  obtain ⟨pg, hpg⟩ : ∃ pg, (bits .and .u32 (C.getD 17 0) 5 == 4) = pg := ⟨_, rfl⟩
  rw [hpg] at HPG
  obtain ⟨cA, hcA⟩ : ∃ cA, wA C = cA := ⟨_, rfl⟩
  rw [hcA] at c23 M1 HZ HPG ⊢
  unfold RchTo
  clear hM hL hC hcA hpg hrt hrt2
  have z0 : (va : Int).tmod 1 = 0 := by rw [Int.tmod_eq_emod_of_nonneg (by omega)]; omega
  cases pg
  · go_enter Tryz.func116, Tryz.ntmps116
    go_wp2_with fail
    refine (HK.out _).mono ?_
    rintro e w3 ⟨rfl, rfl⟩
    go_wp2_with (show wpList _ _ _ ((⟨_, Op.load 44 _, _, _, _, _⟩ : Oper) :: _) _ _; refine Mem.go_loadAll 44 rfl rfl rfl 0 M1.out rfl uCpu (by rw [HZ.out]; exact sCpu) ?_)
    refine (HPG.out _).mono ?_
    rintro e w4 ⟨rfl, h4⟩
    have M4 := Lib.hid (M1.out.keep h4)
    clear h4
    by_cases hin : inM va 1 = true
    · rw [hin] at HW
      have hlt : va < 1024 := by
        unfold inM at hin
        simp only [Bool.and_eq_true, decide_eq_true_eq] at hin
        exact hin.2
      go_wp2_with fail
      refine (HW.out _).mono ?_
      rintro e w5 ⟨rfl, rfl⟩
      go_wp2
      go_ret2
      exact ⟨va, 0, L, rfl, by omega, by decide, by decide, (fun _ => hlt), HOK.out, M4.out.rest⟩
    · have hf : inM va 1 = false := by simpa using hin
      rw [hf] at HW
      go_wp2_with fail
      refine (HW.out _).mono ?_
      rintro e w5 ⟨rfl, rfl⟩
      go_wp2_with fail
      refine (HCA.out _).mono ?_
      rintro e w5 ⟨rfl, rfl⟩
      go_wp2
      go_ret2
      exact ⟨0, 6, L, rfl, by decide, by decide, by decide, (fun h => by cases h), HOK.out, M4.out.rest⟩
  · go_enter Tryz.func116, Tryz.ntmps116
    go_wp2_with fail
    refine (HK.out _).mono ?_
    rintro e w3 ⟨rfl, rfl⟩
    go_wp2_with (show wpList _ _ _ ((⟨_, Op.load 44 _, _, _, _, _⟩ : Oper) :: _) _ _; refine Mem.go_loadAll 44 rfl rfl rfl 0 M1.out rfl uCpu (by rw [HZ.out]; exact sCpu) ?_)
    refine (HPG.out _).mono ?_
    rintro e w4 ⟨rfl, h4⟩
    have M4 := Lib.hid (M1.out.keep h4)
    clear h4
    have x23 := M4.out.cell 0 rfl 23 c23
    go_wp2_with fail
    refine (HWK.out _ (memSl M4.out.rest)).mono ?_
    rintro e w5 ⟨ad, en, ca, rfl, had, hen, hca0, hca1, had2, h5⟩
    have M5 := Lib.hid ((M4.out.keep h5).allocF (b := w5.heap.size) rfl #[.int .u32 (ad : Int), .int .u32 (en : Int), .int .i64 ca] 236)
    clear h5 x23 M4
    by_cases hca : ca = 0
    · subst hca
      have M6 := M5.out.permut (H' := memR W.heap.size g cap L :: .box w5.heap.size #[.int .u32 (ad : Int), .int .u32 (en : Int), .int .i64 0] 236 :: .box w.heap.size cA 44 :: F) ((List.Perm.cons _ (List.Perm.swap _ _ _)).trans (List.Perm.swap _ _ _))
      have HMK2 := Lib.hid (HMK.out en _ hen _ M6)
      clear M6
      go_wp2_with fail
      refine HMK2.out.mono ?_
      rintro e w7 ⟨rfl, L2, hL2, M7⟩
      have HL2 := Lib.hid hL2
      obtain ⟨⟨t0, t1, t2⟩, _, _⟩ := M7.box3 1 rfl
      have M8 := Lib.hid ((M7.permut ((List.Perm.swap _ _ _).trans (List.Perm.cons _ (List.Perm.swap _ _ _)))).rest.rest)
      clear hL2 M7 HMK2
      go_wp2
      go_ret2
      exact ⟨ad, 0, L2, rfl, had, by decide, by decide, (fun _ => had2 trivial), HL2.out, M8.out⟩
    · have zca : (ca == 0) = false := by rw [beq_eq_false_iff_ne]; exact hca
      have M6 := Lib.hid M5.out.rest.rest
      go_wp2
      go_big_quiet (fail)
      go_wp2
      go_ret2
      exact ⟨0, ca, L, rfl, by decide, hca0, hca1, (fun h => absurd h hca), HOK.out, M6.out.keep ((Held.refl _).drewN _)⟩
set_option maxHeartbeats 4000000 in
theorem reach4_3 (W : World) (g cap va : Nat) (C L : List Int) (F : List Ck) (hva : va < 4294967296) (hC : CpuOK C) (hL : MemOK L) (w : World) (hM : Mem W w (memR W.heap.size g cap L :: F)) :
    Calls Tryz.prog 116 #[.agg (wA C), .slice (some ⟨g, 0, none⟩) 256 cap, .int .u32 (va : Int), .int .i64 4, .int .i64 3] w (RchTo W g cap F) := by
  have HK := Lib.hid fun w => (show Calls Tryz.prog 145 #[.int .i64 3] w (fun e w' => e = .returned (.bool true) ∧ w = w') from known_any 3 (by decide) w)
  have HCA := Lib.hid fun w => (show Calls Tryz.prog 147 #[.int .i64 3] w (fun e w' => e = .returned (.int .i64 6) ∧ w = w') from cause_any 3 (by decide) w)
  have HW := Lib.hid fun w => within4 (some ⟨g, 0, none⟩) cap va hva w
  have HPG := Lib.hid fun w => paged_any C hC w
  have hcap := memCap hM
  have c23 := wA_at (L := C) (j := 23) (by rw [hC.len]; decide)
  obtain ⟨rt, hrt, hrt2⟩ := wd_nat (hC.at_ 23)
  rw [hrt] at c23
  have HZ : Is (wA C).size 25 := ⟨by rw [wA_size]; exact hC.len⟩
  have HWK := Lib.hid fun (w' : World) (h : Sl 1 uC w' (some ⟨g, 0, none⟩) 256 L) => walk3 (some ⟨g, 0, none⟩) cap rt va L hrt2 hva hcap hL w' h
  have HMK := Lib.hid fun (en : Nat) (F' : List Ck) (hen : en < 4294967296) (w' : World) (h : Mem W w' (memR W.heap.size g cap L :: F')) => mark_any W g cap en 3 L F' hen (by decide) hL w' h
  have HOK := Lib.hid hL
  have M0 := Lib.hid hM
  have M1 := Lib.hid (hM.allocF (b := w.heap.size) rfl (wA C) 44)
  have zva : (va : Int) ≤ 4294967295 := by omega
  obtain ⟨pg, hpg⟩ : ∃ pg, (bits .and .u32 (C.getD 17 0) 5 == 4) = pg := ⟨_, rfl⟩
  rw [hpg] at HPG
  obtain ⟨cA, hcA⟩ : ∃ cA, wA C = cA := ⟨_, rfl⟩
  rw [hcA] at c23 M1 HZ HPG ⊢
  unfold RchTo
  clear hM hL hC hcA hpg hrt hrt2
  have hm : (va : Int).tmod 4 = ((va % 4 : Nat) : Int) := by rw [Int.tmod_eq_emod_of_nonneg (by omega)]; omega
  by_cases hal : va % 4 = 0
  · have z0 : (va : Int).tmod 4 = 0 := by rw [hm, hal]; rfl
    clear hm
    cases pg
    · go_enter Tryz.func116, Tryz.ntmps116
      go_wp2_with fail
      refine (HK.out _).mono ?_
      rintro e w3 ⟨rfl, rfl⟩
      go_wp2_with (show wpList _ _ _ ((⟨_, Op.load 44 _, _, _, _, _⟩ : Oper) :: _) _ _; refine Mem.go_loadAll 44 rfl rfl rfl 0 M1.out rfl uCpu (by rw [HZ.out]; exact sCpu) ?_)
      refine (HPG.out _).mono ?_
      rintro e w4 ⟨rfl, h4⟩
      have M4 := Lib.hid (M1.out.keep h4)
      clear h4
      by_cases hin : inM va 4 = true
      · rw [hin] at HW
        have hlt : va < 1024 := by
          unfold inM at hin
          simp only [Bool.and_eq_true, decide_eq_true_eq] at hin
          exact hin.2
        go_wp2_with fail
        refine (HW.out _).mono ?_
        rintro e w5 ⟨rfl, rfl⟩
        go_wp2
        go_ret2
        exact ⟨va, 0, L, rfl, by omega, by decide, by decide, (fun _ => hlt), HOK.out, M4.out.rest⟩
      · have hf : inM va 4 = false := by simpa using hin
        rw [hf] at HW
        go_wp2_with fail
        refine (HW.out _).mono ?_
        rintro e w5 ⟨rfl, rfl⟩
        go_wp2_with fail
        refine (HCA.out _).mono ?_
        rintro e w5 ⟨rfl, rfl⟩
        go_wp2
        go_ret2
        exact ⟨0, 6, L, rfl, by decide, by decide, by decide, (fun h => by cases h), HOK.out, M4.out.rest⟩
    · go_enter Tryz.func116, Tryz.ntmps116
      go_wp2_with fail
      refine (HK.out _).mono ?_
      rintro e w3 ⟨rfl, rfl⟩
      go_wp2_with (show wpList _ _ _ ((⟨_, Op.load 44 _, _, _, _, _⟩ : Oper) :: _) _ _; refine Mem.go_loadAll 44 rfl rfl rfl 0 M1.out rfl uCpu (by rw [HZ.out]; exact sCpu) ?_)
      refine (HPG.out _).mono ?_
      rintro e w4 ⟨rfl, h4⟩
      have M4 := Lib.hid (M1.out.keep h4)
      clear h4
      have x23 := M4.out.cell 0 rfl 23 c23
      go_wp2_with fail
      refine (HWK.out _ (memSl M4.out.rest)).mono ?_
      rintro e w5 ⟨ad, en, ca, rfl, had, hen, hca0, hca1, had2, h5⟩
      have M5 := Lib.hid ((M4.out.keep h5).allocF (b := w5.heap.size) rfl #[.int .u32 (ad : Int), .int .u32 (en : Int), .int .i64 ca] 236)
      clear h5 x23 M4
      by_cases hca : ca = 0
      · subst hca
        have M6 := M5.out.permut (H' := memR W.heap.size g cap L :: .box w5.heap.size #[.int .u32 (ad : Int), .int .u32 (en : Int), .int .i64 0] 236 :: .box w.heap.size cA 44 :: F) ((List.Perm.cons _ (List.Perm.swap _ _ _)).trans (List.Perm.swap _ _ _))
        have HMK2 := Lib.hid (HMK.out en _ hen _ M6)
        clear M6
        go_wp2_with fail
        refine HMK2.out.mono ?_
        rintro e w7 ⟨rfl, L2, hL2, M7⟩
        have HL2 := Lib.hid hL2
        obtain ⟨⟨t0, t1, t2⟩, _, _⟩ := M7.box3 1 rfl
        have M8 := Lib.hid ((M7.permut ((List.Perm.swap _ _ _).trans (List.Perm.cons _ (List.Perm.swap _ _ _)))).rest.rest)
        clear hL2 M7 HMK2
        go_wp2
        go_ret2
        exact ⟨ad, 0, L2, rfl, had, by decide, by decide, (fun _ => had2 trivial), HL2.out, M8.out⟩
      · have zca : (ca == 0) = false := by rw [beq_eq_false_iff_ne]; exact hca
        have M6 := Lib.hid M5.out.rest.rest
        go_wp2
        go_big_quiet (fail)
        go_wp2
        go_ret2
        exact ⟨0, ca, L, rfl, by decide, hca0, hca1, (fun h => absurd h hca), HOK.out, M6.out.keep ((Held.refl _).drewN _)⟩
  · obtain ⟨m, hm2⟩ : ∃ m, va % 4 = m := ⟨_, rfl⟩
    rw [hm2] at hm hal
    have z0 : ((m : Int) == 0) = false := by rw [beq_eq_false_iff_ne]; omega
    have z1 : (m : Int) ≤ 3 := by omega
    have M3 := Lib.hid M1.out.rest
    clear hm2 hal
    go_enter Tryz.func116, Tryz.ntmps116
    go_wp2_with fail
    refine (HK.out _).mono ?_
    rintro e w3 ⟨rfl, rfl⟩
    go_wp2
    go_ret2
    exact ⟨0, 3, L, rfl, by decide, by decide, by decide, (fun h => by cases h), HOK.out, M3.out⟩
end Ma
end Go.Proofs.YtdacgdokbfcgdaaGreat

namespace Go.Proofs.YtdacgdokbfcgdaaGreat
open Go.RowKit Go.BigFrame Go.Sort Go.Lib
namespace Ma
def BoolSome (w : World) (e : Ending) (w' : World) : Prop := ∃ b : Bool, e = .returned (.bool b) ∧ w = w'
def WdSome (w : World) (e : Ending) (w' : World) : Prop := ∃ z : Int, e = .returned (.int .u32 z) ∧ Wd z ∧ w = w'
theorem taken_any (op : Nat) (a b : Int) (ho : 40 ≤ op ∧ op ≤ 45) (ha : Wd a) (hb : Wd b) (w : World) : Calls Tryz.prog 152 #[.int .i64 (op : Int), .int .u32 a, .int .u32 b] w (BoolSome w) := by
  obtain ⟨h1, h2⟩ := ho
  unfold BoolSome
  rcases (by omega : op = 40 ∨ op = 41 ∨ op = 42 ∨ op = 43 ∨ op = 44 ∨ op = 45) with rfl | rfl | rfl | rfl | rfl | rfl
  all_goals
    go_enter Tryz.func152, Tryz.ntmps152
    go_wp2
    go_ret
    exact ⟨_, rfl, rfl⟩
theorem privileged_any (op : Nat) (ho : op ≤ 64) (w : World) : Calls Tryz.prog 117 #[.int .i64 (op : Int)] w fun e w' => e = .returned (.bool (decide (57 ≤ op))) ∧ w = w' := by
  have z2 : (op : Int) ≤ 64 := by omega
  by_cases h : 57 ≤ op
  · have z1 : (57 : Int) ≤ op := by omega
    rw [decide_eq_true h]
    clear h ho
    go_enter Tryz.func117, Tryz.ntmps117
    go_wp2
    go_ret
    exact ⟨rfl, rfl⟩
  · have z1 : ¬ (57 : Int) ≤ op := by omega
    rw [decide_eq_false h]
    clear h ho
    go_enter Tryz.func117, Tryz.ntmps117
    go_wp2
    go_ret
    exact ⟨rfl, rfl⟩
theorem sgn_ne {b : Int} (h : 0 < b) (h2 : b ≤ 4294967295) : wrap64 (wrap32 b) ≠ 0 := by unfold wrap64 wrap32; omega
theorem wrap_wd (a : Int) : Wd (IntKind.u32.wrap a) := by rw [IntKind.wrap_u32']; exact mod_wd a
theorem div_wd {a : Int} (ha : Wd a) (k : Nat) : Wd (a / 2 ^ k) := ⟨Int.ediv_nonneg ha.1 (Int.le_of_lt (Int.pow_pos (by decide))), Int.le_trans (Int.ediv_le_self _ ha.1) ha.2⟩
def AluSome (w : World) (e : Ending) (w' : World) : Prop := ∃ (z : Int) (b : Bool), e = .returned (.tuple #[.int .u32 z, .bool b]) ∧ Wd z ∧ Held w w'
def WdTwo (w : World) (e : Ending) (w' : World) : Prop := ∃ y z : Int, e = .returned (.tuple #[.int .u32 y, .int .u32 z]) ∧ Wd y ∧ Wd z ∧ Held w w'
theorem divide_any (a b : Int) (ha : Wd a) (hb : Wd b) (w : World) : Calls Tryz.prog 155 #[.int .u32 a, .int .u32 b] w (WdTwo w) := by
  unfold WdTwo
  have hb0 : 0 ≤ b := hb.1
  have hb1 : b ≤ 4294967295 := hb.2
  by_cases h : b = 0
  · subst h
    go_enter Tryz.func155, Tryz.ntmps155
    go_wp2
    go_ret2
    exact ⟨_, _, rfl, ⟨by decide, by decide⟩, ha, Held.refl _⟩
  · have zb : (b == 0) = false := by rw [beq_eq_false_iff_ne]; exact h
    have hne := sgn_ne (b := b) (by omega) hb1
    obtain ⟨x, hx⟩ : ∃ x, wrap64 (wrap32 a) = x := ⟨_, rfl⟩
    obtain ⟨y, hy⟩ : ∃ y, wrap64 (wrap32 b) = y := ⟨_, rfl⟩
    rw [hy] at hne
    have zy : (y == 0) = false := by rw [beq_eq_false_iff_ne]; exact hne
    go_enter Tryz.func155, Tryz.ntmps155
    go_wp2
    go_region
    go_wp2
    go_ret2
    exact ⟨_, _, rfl, mod_wd _, mod_wd _, (Held.refl _).drew⟩
theorem sext_any (a : Int) (ha : Wd a) (w : World) : Calls Tryz.prog 153 #[.int .u32 a, .int .i64 8] w (WdSome w) := by
  unfold WdSome
  go_enter Tryz.func153, Tryz.ntmps153
  go_wp2
  all_goals
    go_ret
    exact ⟨_, rfl, bits_wd _ _ _, rfl⟩
def plainN (op : Nat) : Nat := if op = 16 then 1 else if op = 17 then 3 else if op = 18 then 4 else if op = 19 then 5 else if op = 20 then 6 else if op = 21 then 7 else if op = 22 then 8 else if op = 23 then 12 else op
theorem plain_any (op : Nat) (ho : (1 ≤ op ∧ op ≤ 13) ∨ (16 ≤ op ∧ op ≤ 23)) (w : World) : Calls Tryz.prog 154 #[.int .i64 (op : Int)] w fun e w' => e = .returned (.int .i64 (plainN op : Int)) ∧ w = w' := by
  rcases (by omega : op = 1 ∨ op = 2 ∨ op = 3 ∨ op = 4 ∨ op = 5 ∨ op = 6 ∨ op = 7 ∨ op = 8 ∨ op = 9 ∨ op = 10 ∨ op = 11 ∨ op = 12 ∨ op = 13 ∨ op = 16 ∨ op = 17 ∨ op = 18 ∨ op = 19 ∨ op = 20 ∨ op = 21 ∨ op = 22 ∨ op = 23) with rfl | rfl | rfl | rfl | rfl | rfl | rfl | rfl | rfl | rfl | rfl | rfl | rfl | rfl | rfl | rfl | rfl | rfl | rfl | rfl | rfl
  all_goals
    clear ho
    go_enter Tryz.func154, Tryz.ntmps154
    go_wp2
    go_ret
    exact ⟨rfl, rfl⟩
theorem plain_bd {op : Nat} (ho : (1 ≤ op ∧ op ≤ 13) ∨ (16 ≤ op ∧ op ≤ 23)) : 1 ≤ plainN op ∧ plainN op ≤ 13 := by
  unfold plainN
  repeat (first | omega | split)
set_option maxHeartbeats 4000000 in
theorem alu_any (op : Nat) (a b : Int) (ho : (1 ≤ op ∧ op ≤ 13) ∨ (16 ≤ op ∧ op ≤ 23)) (ha : Wd a) (hb : Wd b) (w : World) : Calls Tryz.prog 121 #[.int .i64 (op : Int), .int .u32 a, .int .u32 b] w (AluSome w) := by
  have HD := Lib.hid fun w => divide_any a b ha hb w
  have HBT := Lib.hid fun b w => bit_any b w
  unfold WdTwo at HD
  obtain ⟨ha0, ha1⟩ := ha
  obtain ⟨hb0, hb1⟩ := hb
  obtain ⟨s, hs⟩ : ∃ s, bits .and .u32 b 31 = s := ⟨_, rfl⟩
  have hs0 : 0 ≤ s := by rw [← hs]; exact (bits_wd _ _ _).1
  have hs1 : s ≤ 4294967295 := by rw [← hs]; exact (bits_wd _ _ _).2
  have HPL := Lib.hid fun w => plain_any op ho w
  have hp := plain_bd ho
  generalize plainN op = p at HPL hp
  obtain ⟨hp1, hp2⟩ := hp
  clear ho
  rcases (by omega : p = 1 ∨ p = 2 ∨ p = 3 ∨ p = 4 ∨ p = 5 ∨ p = 6 ∨ p = 7 ∨ p = 8 ∨ p = 9 ∨ p = 10 ∨ p = 11 ∨ p = 12 ∨ p = 13) with rfl | rfl | rfl | rfl | rfl | rfl | rfl | rfl | rfl | rfl | rfl | rfl | rfl
  all_goals
    go_enter Tryz.func121, Tryz.ntmps121
    go_wp2_with fail
    refine (HPL.out _).mono ?_
    rintro e w2 ⟨rfl, rfl⟩
    first
      | (go_wp2_with fail; go_ret2; exact ⟨_, _, rfl, by first | exact bits_wd _ _ _ | exact mod_wd _ | exact wrap_wd _ | exact div_wd ⟨ha0, ha1⟩ _ | (constructor <;> omega), Held.refl _⟩)
      | (go_wp2_with fail; refine (HD.out _).mono ?_; rintro e w3 ⟨y, z, rfl, hy, hz, h3⟩; go_wp2; go_ret2; first | exact ⟨_, _, rfl, hy, h3⟩ | exact ⟨_, _, rfl, hz, h3⟩)
      | (go_wp2_with fail; refine (HBT.out _ _).mono ?_; rintro e w3 ⟨rfl, rfl⟩; go_wp2; all_goals (go_ret2; exact ⟨_, _, rfl, by first | exact ⟨by decide, by decide⟩ | (split <;> exact ⟨by decide, by decide⟩), Held.refl _⟩))
end Ma
end Go.Proofs.YtdacgdokbfcgdaaGreat

namespace Go.Proofs.YtdacgdokbfcgdaaGreat
open Go.RowKit Go.Lib
namespace Mem
variable {W w : World}
theorem step_storeAll {P : Program} {ops : Array Oper} {o : Oper} {a : Act} {K : Act → World → Prop} {Q : Exit → Act → World → Prop} {E : Prop} (t : TypeId) {x y : Operand} (hop : o.op = .store t x y) (hgd : o.guard = none) {b : Nat} {news : Array Value} (hx : a.eval x = .pointer (some ⟨b, 0, none⟩)) (hy : a.eval y = .agg news)
    (i : Nat) {cs : Array Value} {T : TypeId} {H : List Ck} (h : Mem W w H) (hi : H[i]? = some (.box b cs T)) (hsz : (P.info? t).map (·.size) = some news.size)
    (hs : news.size = cs.size) (h1 : ∀ v ∈ news.toList, v.oneCell' = true)
    (k : ∀ w', Mem W w' (H.set i (.box b news T)) → K (a.put o.dst undef) w') : if Region.wanted o (yielded ops a.tmps) = true then Oper.wp P o a w K Q else E := by
  have hw : Region.wanted o (yielded ops a.tmps) = true := by simp [Region.wanted, hgd]
  have hl := Big.run_store w b 0 T t cs news (h.blk i hi) hsz (by omega) h1
  have e : (cs.toList.take 0 ++ news.toList ++ cs.toList.drop (0 + news.size)).toArray = news := by
    rw [List.take_zero, List.nil_append, List.drop_of_length_le (by rw [Array.length_toList]; omega), List.append_nil]
  rw [e] at hl
  rw [if_pos hw]
  unfold Oper.wp execOp
  simp only [hop, Instr.storeAt, Instr.sureAddr, Sem.run_bind, Sem.run_pure, Result.andThen_ok, hx, hy, hl]
  exact k _ (h.setRow i hi news)
end Mem
end Go.Proofs.YtdacgdokbfcgdaaGreat

namespace Go.Proofs.YtdacgdokbfcgdaaGreat
open Go.RowKit Go.Lib
namespace Big
variable {P : Program} {ops : Array Oper} {S : World → Prop}
theorem yields_load {o : Oper} {a : Act} (t : TypeId) {x : Operand} {b : Nat} {cs : Array Value} {T : TypeId} {fr : Nat × Nat} (hop : o.op = .load t x) (hgd : o.guard = none) (hx : a.eval x = .pointer (some ⟨b, 0, none⟩))
    (hS : ∀ w, S w → w.heap[b]? = some (.cells cs T fr)) (hu : ∃ fs, P.underlying t = some (.struct fs)) (hsz : (P.info? t).map (·.size) = some cs.size) : YieldsIf P ops S o (.agg cs) a := by
  obtain ⟨fs, hu⟩ := hu
  refine Or.inl ⟨by simp [Region.wanted, hgd], fun w hw => ?_⟩
  have hl := Big.run_load w b 0 cs.size T t cs fr _ (hS w hw) hu rfl hsz (by omega) cs.toList (by rw [List.drop_zero, List.take_of_length_le (by rw [Array.length_toList]; exact Nat.le_refl _)])
  rw [show cs.toList.toArray = cs by simp] at hl
  unfold execOp
  simp only [hop, Instr.loadAt, Instr.sureAddr, Sem.run_bind, Sem.run_pure, Result.andThen_ok, hx, hl]
theorem yields_part {o : Oper} {a : Act} (t : TypeId) {x : Operand} {b : Nat} {cs : Array Value} {T : TypeId} {fr : Nat × Nat} (hop : o.op = .load t x) (hgd : o.guard = none) (off n : Nat) (hx : a.eval x = .pointer (some ⟨b, off, none⟩))
    (hS : ∀ w, S w → w.heap[b]? = some (.cells cs T fr)) (hu : ∃ fs, P.underlying t = some (.struct fs)) (hsz : (P.info? t).map (·.size) = some n) (hf : off + n ≤ cs.size) {news : Array Value} (hn : (cs.toList.drop off).take n = news.toList) : YieldsIf P ops S o (.agg news) a := by
  obtain ⟨fs, hu⟩ := hu
  refine Or.inl ⟨by simp [Region.wanted, hgd], fun w hw => ?_⟩
  have hl := Big.run_load w b off n T t cs fr _ (hS w hw) hu rfl hsz hf news.toList hn
  rw [show news.toList.toArray = news by simp] at hl
  unfold execOp
  simp only [hop, Instr.loadAt, Instr.sureAddr, Sem.run_bind, Sem.run_pure, Result.andThen_ok, hx, hl]
/-- A load of a struct in a walk through a region that only reads. -/
theorem quiet_part {o : Oper} {a : Act} {C : World → Prop} {K : Act → Prop} (t : TypeId) {x : Operand} (hop : o.op = .load t x) {b : Nat} (off n : Nat) (hx : a.eval x = .pointer (some ⟨b, off, none⟩)) {cs : Array Value} {T : TypeId} {fr : Nat × Nat}
    (hC : ∀ w, C w → w.heap[b]? = some (.cells cs T fr)) (hu : ∃ fs, P.underlying t = some (.struct fs)) (hsz : (P.info? t).map (·.size) = some n) (hf : off + n ≤ cs.size) {news : Array Value} (hn : (cs.toList.drop off).take n = news.toList) (k : K (a.put o.dst (.agg news))) : o.quiet P a C K := by
  obtain ⟨fs, hu⟩ := hu
  refine ⟨.agg news, fun w hw => ?_, k⟩
  have hl := Big.run_load w b off n T t cs fr _ (hC w hw) hu rfl hsz hf news.toList hn
  rw [show news.toList.toArray = news by simp] at hl
  unfold Oper.quietAt execOp
  simp only [hop, Instr.loadAt, Instr.sureAddr, Sem.run_bind, Sem.run_pure, Result.andThen_ok, hx, hl]
  exact ⟨rfl, rfl⟩
/-- The list of cells behind a store of a part. -/
def patch (cs : Array Value) (off : Nat) (news : Array Value) : Array Value := (cs.toList.take off ++ news.toList ++ cs.toList.drop (off + news.size)).toArray
end Big
namespace Mem
variable {W w : World}
/-- A part of a box by value. -/
theorem go_loadPart {P : Program} {ops : Array Oper} {rest : List Oper} {o : Oper} {a : Act} {Q : Exit → Act → World → Prop} (t : TypeId) {x : Operand} (hop : o.op = .load t x) (hgd : o.guard = none) {b : Nat} (off n : Nat) (hx : a.eval x = .pointer (some ⟨b, off, none⟩))
    (i : Nat) {cs : Array Value} {T : TypeId} {H : List Ck} (h : Mem W w H) (hi : H[i]? = some (.box b cs T)) (hu : ∃ fs, P.underlying t = some (.struct fs)) (hsz : (P.info? t).map (·.size) = some n) (hf : off + n ≤ cs.size) {news : Array Value} (hn : (cs.toList.drop off).take n = news.toList)
    (k : wpList P ops Q rest (a.put o.dst (.agg news)) w) : wpList P ops Q (o :: rest) a w := by
  obtain ⟨fs, hu⟩ := hu
  refine h.wp_loadA i hi hgd x t hop off n hx _ hu rfl hsz hf news.toList hn ?_
  simpa using k
/-- A whole box by value, by an operation that is guarded and wanted. -/
theorem go_loadAllG {P : Program} {ops : Array Oper} {rest : List Oper} {o : Oper} {a : Act} {Q : Exit → Act → World → Prop} (t : TypeId) {x : Operand} (hop : o.op = .load t x) (hw : Region.wanted o (yielded ops a.tmps) = true) {b : Nat} (hx : a.eval x = .pointer (some ⟨b, 0, none⟩))
    (i : Nat) {cs : Array Value} {T : TypeId} {H : List Ck} (h : Mem W w H) (hi : H[i]? = some (.box b cs T)) (hu : ∃ fs, P.underlying t = some (.struct fs)) (hsz : (P.info? t).map (·.size) = some cs.size)
    (k : wpList P ops Q rest (a.put o.dst (.agg cs)) w) : wpList P ops Q (o :: rest) a w := by
  obtain ⟨fs, hu⟩ := hu
  have hl := Big.run_load w b 0 cs.size T t cs (0, 0) _ (h.blk i hi) hu rfl hsz (by omega) cs.toList (by rw [List.drop_zero, List.take_of_length_le (by rw [Array.length_toList]; exact Nat.le_refl _)])
  rw [show cs.toList.toArray = cs by simp] at hl
  refine BigFrame.wpList_want hw fun K hK => ?_
  unfold Oper.wp execOp
  simp only [hop, Instr.loadAt, Instr.sureAddr, Sem.run_bind, Sem.run_pure, Result.andThen_ok, hx, hl]
  exact hK _ _ k
theorem go_loadPartG {P : Program} {ops : Array Oper} {rest : List Oper} {o : Oper} {a : Act} {Q : Exit → Act → World → Prop} (t : TypeId) {x : Operand} (hop : o.op = .load t x) (hw : Region.wanted o (yielded ops a.tmps) = true) {b : Nat} (off n : Nat) (hx : a.eval x = .pointer (some ⟨b, off, none⟩))
    (i : Nat) {cs : Array Value} {T : TypeId} {H : List Ck} (h : Mem W w H) (hi : H[i]? = some (.box b cs T)) (hu : ∃ fs, P.underlying t = some (.struct fs)) (hsz : (P.info? t).map (·.size) = some n) (hf : off + n ≤ cs.size) {news : Array Value} (hn : (cs.toList.drop off).take n = news.toList)
    (k : wpList P ops Q rest (a.put o.dst (.agg news)) w) : wpList P ops Q (o :: rest) a w := by
  obtain ⟨fs, hu⟩ := hu
  have hl := Big.run_load w b off n T t cs (0, 0) _ (h.blk i hi) hu rfl hsz hf news.toList hn
  rw [show news.toList.toArray = news by simp] at hl
  refine BigFrame.wpList_want hw fun K hK => ?_
  unfold Oper.wp execOp
  simp only [hop, Instr.loadAt, Instr.sureAddr, Sem.run_bind, Sem.run_pure, Result.andThen_ok, hx, hl]
  exact hK _ _ k
/-- A value into a part of a box. -/
theorem go_storePart {P : Program} {ops : Array Oper} {rest : List Oper} {o : Oper} {a : Act} {Q : Exit → Act → World → Prop} (t : TypeId) {x y : Operand} (hop : o.op = .store t x y) (hgd : o.guard = none) {b : Nat} (off : Nat) {news : Array Value} (hx : a.eval x = .pointer (some ⟨b, off, none⟩)) (hy : a.eval y = .agg news)
    (i : Nat) {cs : Array Value} {T : TypeId} {H : List Ck} (h : Mem W w H) (hi : H[i]? = some (.box b cs T)) (hsz : (P.info? t).map (·.size) = some news.size) (hf : off + news.size ≤ cs.size) (h1 : ∀ v ∈ news.toList, v.oneCell' = true)
    (k : ∀ w', Mem W w' (H.set i (.box b (Big.patch cs off news) T)) → wpList P ops Q rest (a.put o.dst undef) w') : wpList P ops Q (o :: rest) a w :=
  h.wp_storeA i hi hgd x y t hop off news hx hy hsz hf h1 fun w' h' _ => k w' h'
/-- The same at a step of a region that draws its order. -/
theorem step_storePart {P : Program} {ops : Array Oper} {o : Oper} {a : Act} {K : Act → World → Prop} {Q : Exit → Act → World → Prop} {E : Prop} (t : TypeId) {x y : Operand} (hop : o.op = .store t x y) (hgd : o.guard = none) {b : Nat} (off : Nat) {news : Array Value} (hx : a.eval x = .pointer (some ⟨b, off, none⟩)) (hy : a.eval y = .agg news)
    (i : Nat) {cs : Array Value} {T : TypeId} {H : List Ck} (h : Mem W w H) (hi : H[i]? = some (.box b cs T)) (hsz : (P.info? t).map (·.size) = some news.size) (hf : off + news.size ≤ cs.size) (h1 : ∀ v ∈ news.toList, v.oneCell' = true)
    (k : ∀ w', Mem W w' (H.set i (.box b (Big.patch cs off news) T)) → K (a.put o.dst undef) w') : if Region.wanted o (yielded ops a.tmps) = true then Oper.wp P o a w K Q else E := by
  have hw : Region.wanted o (yielded ops a.tmps) = true := by simp [Region.wanted, hgd]
  have hl := Big.run_store w b off T t cs news (h.blk i hi) hsz hf h1
  rw [if_pos hw]
  unfold Oper.wp execOp
  simp only [hop, Instr.storeAt, Instr.sureAddr, Sem.run_bind, Sem.run_pure, Result.andThen_ok, hx, hy, hl]
  exact k _ (h.setRow i hi _)
end Mem
end Go.Proofs.YtdacgdokbfcgdaaGreat
