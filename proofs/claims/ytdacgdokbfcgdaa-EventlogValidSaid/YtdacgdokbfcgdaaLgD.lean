/-
  Contracts: sealed segments: the hash's bytes, Seal and Open of eventlog and of its reference.
-/
import Derived.Test.YtdacgdokbfcgdaaLgC
set_option linter.unusedVariables false
set_option maxRecDepth 100000
namespace Go.Proofs.Ytdacgdokbfcgdaa
open Go.RowKit
namespace Lgc
open Lg Strs
/-- The call hands back the string of these bytes; what was there stays. -/
def MakesS (l : List UInt8) (w : World) (e : Ending) (w' : World) : Prop := e = .returned (.string ⟨l.toArray⟩) ∧ Held w w'
/-- The bytes written so far. -/
def arr (h : Nat) (k : Nat) : Array Value := ((List.range 8).map fun i => Value.int .u8 (if i < k then ((UInt8.ofNat (h / 256 ^ (7 - i) % 256)).toNat : Int) else 0)).toArray
theorem arr_step (h k : Nat) (hk : k < 8) : (arr h k).setIfInBounds k (.int .u8 ((h / 256 ^ (7 - k) % 256 : Nat) : Int)) = arr h (k + 1) := by
  have e : ((UInt8.ofNat (h / 256 ^ (7 - k) % 256)).toNat : Int) = ((h / 256 ^ (7 - k) % 256 : Nat) : Int) := by rw [Uv.ofNat_toNat (Nat.mod_lt _ (by omega))]
  rw [← e]
  apply Array.ext
  · simp [arr]
  · intro i h1 h2
    simp only [arr, List.size_toArray, List.length_map, List.length_range] at h2
    rw [Array.getElem_setIfInBounds (by simpa [arr] using h2)]
    by_cases hik : k = i
    · subst hik; simp [arr]
    · rw [if_neg hik]
      simp only [arr, List.getElem_toArray, List.getElem_map, List.getElem_range]
      have h3 : (i < k) ↔ (i < k + 1) := by omega
      simp only [h3]
theorem arr_zero (h : Nat) : arr h 0 = #[.int .u8 0, .int .u8 0, .int .u8 0, .int .u8 0, .int .u8 0, .int .u8 0, .int .u8 0, .int .u8 0] := by simp [arr, List.range, List.range.loop]
theorem arr_at (h j : Nat) (hj : j < (be8 h).length) : (arr h 8)[j]? = some (.int .u8 (be8 h)[j].toNat) := by
  rw [be8_len] at hj
  simp [arr, be8, hj]
theorem sum_any (s : ByteArray) (hs : s.size ≤ 9223372036854775807) (w : World) :
    Calls Try.prog 19 #[.string s] w (MakesS (be8 (Hs.hash HS s.data.toList)) w) := by
  have hlt : Hs.hash HS s.data.toList < 18446744073709551616 := Hs.hash_lt _ _ (by decide)
  have hh := Lib.hid (hash_any HS s (by decide) hs w)
  generalize Hs.hash HS s.data.toList = h at *
  have hh64 : (h : Int) ≤ 18446744073709551615 := by omega
  clear hlt
  go_enter Try.func19, Try.ntmps19
  go_wp2_with fail
  refine hh.out.mono ?_
  rintro e w' ⟨rfl, rfl⟩
  go_wp2_with fail
  go_loopw [8] (fun i wr => ∃ k : Nat, k ≤ 8 ∧ i = .int .i64 k ∧ wr.heap[w.heap.size]? = some (.cells (arr h k) 68 (0, 0)) ∧ Held w wr) (fun i _ => 8 - (intOf i).toNat)
  case atStart => exact ⟨0, by omega, rfl, by rw [arr_zero]; exact box_new _ _, (Held.refl _).alloc _⟩
  case round =>
    obtain ⟨k, hk, rfl, hbx, hw⟩ := hrel
    by_cases hk8 : k < 8
    · have HB := Lib.hid hbx
      have HW := Lib.hid hw
      have hst := arr_step h k hk8
      have HST := Lib.hid hst
      have cc : ∃ v, wr.cell? ⟨w.heap.size, k, none⟩ = some v := by
        have hsz : k < (arr h k).size := by simpa [arr] using hk8
        exact ⟨_, box_cell hbx k (Array.getElem?_eq_getElem hsz)⟩
      obtain ⟨cv, c0⟩ := cc
      have f0 := box_free hbx k
      clear hst hbx hw
      obtain rfl | rfl | rfl | rfl | rfl | rfl | rfl | rfl : k = 0 ∨ k = 1 ∨ k = 2 ∨ k = 3 ∨ k = 4 ∨ k = 5 ∨ k = 6 ∨ k = 7 := by omega
      all_goals
        go_wp2
        go_roundw
        case rel =>
          refine ⟨_, ?_, rfl, ?_, HW.out.set (Nat.le_refl _) _⟩
          · decide
          · rw [box_set HB.out, ← HST.out]
            congr 4 <;> first | (simp; done) | (simp; omega)
        case measure => simp [intOf]
    · obtain rfl : k = 8 := by omega
      have hcv := bytes_back wr ⟨w.heap.size, 0, none⟩ 8 (be8 h) (fun j hj => by rw [Strs.addr_add]; exact box_cell hbx j (arr_at h j hj))
      rw [be8_len] at hcv
      go_wp2
      go_ret
      exact ⟨rfl, hw⟩
theorem range_snoc (x k : Nat) (hk : k < 8) : (be8 x).take (k + 1) = (be8 x).take k ++ [UInt8.ofNat (x / 256 ^ (7 - k) % 256)] := by
  have hl : k < (be8 x).length := by rw [be8_len]; exact hk
  rw [List.take_succ_eq_append_getElem hl]
  congr 2
  simp [be8]
theorem eight_any (x : Nat) (hx : (x : Int) ≤ 18446744073709551615) (w : World) :
    Calls Try.prog 23 #[.int .u64 x] w (MakesS (be8 x) w) := by
  go_enter Try.func23, Try.ntmps23
  go_wp2
  go_loopw [3, 4] (fun v i wr => ∃ k : Nat, k ≤ 8 ∧ i = .int .i64 (56 - 8 * (k : Int)) ∧ wr.ownsRow w.heap.size 5 1 v ((be8 x).take k).length (by8 ((be8 x).take k)) ∧ Held w wr) (fun _ i _ => (intOf i + 8).toNat)
  case atStart => exact ⟨0, by omega, rfl, World.ownsRow_nil _ _ _ _, Held.refl _⟩
  case round =>
    obtain ⟨k, hk, rfl, hown, hw⟩ := hrel
    have hsz := hw.le
    have hll : ((be8 x).take k).length ≤ 8 := by rw [List.length_take, be8_len]; omega
    have HO := Lib.hid hown
    have HW := Lib.hid hw
    by_cases hk8 : k < 8
    · have HS := Lib.hid (range_snoc x k hk8)
      generalize (be8 x).take k = l at hown hll HS HO
      clear hw
      obtain rfl | rfl | rfl | rfl | rfl | rfl | rfl | rfl : k = 0 ∨ k = 1 ∨ k = 2 ∨ k = 3 ∨ k = 4 ∨ k = 5 ∨ k = 6 ∨ k = 7 := by omega
      · go_wp2_with (at_builtin; refine app_u8 _ rfl _ _ rfl w.heap.size _ l [UInt8.ofNat (x / 256 ^ (7 - 0) % 256)] ⟨wr.heap.size, 0, none⟩ 1 1 rfl (hown.alloc _) rfl rfl (one_cell _ _ _ (by rw [Uv.ofNat_toNat (Nat.mod_lt _ (by decide))]; first | (simp; done) | (simp; omega)) _) (by omega) (by simp; omega) ?_; intro v' w1 hown1 hg1 _)
        go_roundw
        case rel => exact ⟨1, by decide, rfl, by rw [HS.out]; exact hown1, below_app HW.out hsz HO.out hg1⟩
        case measure => simp [intOf]
      · go_wp2_with (at_builtin; refine app_u8 _ rfl _ _ rfl w.heap.size _ l [UInt8.ofNat (x / 256 ^ (7 - 1) % 256)] ⟨wr.heap.size, 0, none⟩ 1 1 rfl (hown.alloc _) rfl rfl (one_cell _ _ _ (by rw [Uv.ofNat_toNat (Nat.mod_lt _ (by decide))]; first | (simp; done) | (simp; omega)) _) (by omega) (by simp; omega) ?_; intro v' w1 hown1 hg1 _)
        go_roundw
        case rel => exact ⟨2, by decide, rfl, by rw [HS.out]; exact hown1, below_app HW.out hsz HO.out hg1⟩
        case measure => simp [intOf]
      · go_wp2_with (at_builtin; refine app_u8 _ rfl _ _ rfl w.heap.size _ l [UInt8.ofNat (x / 256 ^ (7 - 2) % 256)] ⟨wr.heap.size, 0, none⟩ 1 1 rfl (hown.alloc _) rfl rfl (one_cell _ _ _ (by rw [Uv.ofNat_toNat (Nat.mod_lt _ (by decide))]; first | (simp; done) | (simp; omega)) _) (by omega) (by simp; omega) ?_; intro v' w1 hown1 hg1 _)
        go_roundw
        case rel => exact ⟨3, by decide, rfl, by rw [HS.out]; exact hown1, below_app HW.out hsz HO.out hg1⟩
        case measure => simp [intOf]
      · go_wp2_with (at_builtin; refine app_u8 _ rfl _ _ rfl w.heap.size _ l [UInt8.ofNat (x / 256 ^ (7 - 3) % 256)] ⟨wr.heap.size, 0, none⟩ 1 1 rfl (hown.alloc _) rfl rfl (one_cell _ _ _ (by rw [Uv.ofNat_toNat (Nat.mod_lt _ (by decide))]; first | (simp; done) | (simp; omega)) _) (by omega) (by simp; omega) ?_; intro v' w1 hown1 hg1 _)
        go_roundw
        case rel => exact ⟨4, by decide, rfl, by rw [HS.out]; exact hown1, below_app HW.out hsz HO.out hg1⟩
        case measure => simp [intOf]
      · go_wp2_with (at_builtin; refine app_u8 _ rfl _ _ rfl w.heap.size _ l [UInt8.ofNat (x / 256 ^ (7 - 4) % 256)] ⟨wr.heap.size, 0, none⟩ 1 1 rfl (hown.alloc _) rfl rfl (one_cell _ _ _ (by rw [Uv.ofNat_toNat (Nat.mod_lt _ (by decide))]; first | (simp; done) | (simp; omega)) _) (by omega) (by simp; omega) ?_; intro v' w1 hown1 hg1 _)
        go_roundw
        case rel => exact ⟨5, by decide, rfl, by rw [HS.out]; exact hown1, below_app HW.out hsz HO.out hg1⟩
        case measure => simp [intOf]
      · go_wp2_with (at_builtin; refine app_u8 _ rfl _ _ rfl w.heap.size _ l [UInt8.ofNat (x / 256 ^ (7 - 5) % 256)] ⟨wr.heap.size, 0, none⟩ 1 1 rfl (hown.alloc _) rfl rfl (one_cell _ _ _ (by rw [Uv.ofNat_toNat (Nat.mod_lt _ (by decide))]; first | (simp; done) | (simp; omega)) _) (by omega) (by simp; omega) ?_; intro v' w1 hown1 hg1 _)
        go_roundw
        case rel => exact ⟨6, by decide, rfl, by rw [HS.out]; exact hown1, below_app HW.out hsz HO.out hg1⟩
        case measure => simp [intOf]
      · go_wp2_with (at_builtin; refine app_u8 _ rfl _ _ rfl w.heap.size _ l [UInt8.ofNat (x / 256 ^ (7 - 6) % 256)] ⟨wr.heap.size, 0, none⟩ 1 1 rfl (hown.alloc _) rfl rfl (one_cell _ _ _ (by rw [Uv.ofNat_toNat (Nat.mod_lt _ (by decide))]; first | (simp; done) | (simp; omega)) _) (by omega) (by simp; omega) ?_; intro v' w1 hown1 hg1 _)
        go_roundw
        case rel => exact ⟨7, by decide, rfl, by rw [HS.out]; exact hown1, below_app HW.out hsz HO.out hg1⟩
        case measure => simp [intOf]
      · go_wp2_with (at_builtin; refine app_u8 _ rfl _ _ rfl w.heap.size _ l [UInt8.ofNat (x / 256 ^ (7 - 7) % 256)] ⟨wr.heap.size, 0, none⟩ 1 1 rfl (hown.alloc _) rfl rfl (one_cell _ _ _ (by rw [Uv.ofNat_toNat (Nat.mod_lt _ (by decide))]; first | (simp; done) | (simp; omega)) _) (by omega) (by simp; omega) ?_; intro v' w1 hown1 hg1 _)
        go_roundw
        case rel => exact ⟨8, by decide, rfl, by rw [HS.out]; exact hown1, below_app HW.out hsz HO.out hg1⟩
        case measure => simp [intOf]
    · obtain rfl : k = 8 := by omega
      have hT : (be8 x).take 8 = be8 x := List.take_of_length_le (by rw [be8_len]; omega)
      rw [hT] at hown
      have hcv := conv_own hown
      clear hT hll
      go_wp2
      go_ret
      exact ⟨rfl, hw⟩
theorem str_mk {s : ByteArray} {l : List UInt8} (h : s.data.toList = l) : s = ⟨l.toArray⟩ := by subst h; simp
theorem ret_str {s : ByteArray} {l : List UInt8} (h : s.data.toList = l) : Ending.returned (.string s) = .returned (.string ⟨l.toArray⟩) := by rw [str_mk h]
theorem ba_size (a : List UInt8) : (⟨a.toArray⟩ : ByteArray).size = a.length := by simp [ByteArray.size]
theorem pack_size (n : Nat) (hn : n < 18446744073709551616) (m : Nat) (hm : m < 18446744073709551616) : (Uv.put n).length ≤ 10 ∧ (Uv.put m).length ≤ 10 := ⟨Uv.put_len n hn, Uv.put_len m hm⟩
set_option maxHeartbeats 400000 in
theorem pack_any (n : Nat) (s : ByteArray) (hn : (n : Int) ≤ 18446744073709551615) (hs : (s.size : Int) ≤ 1000000000000) (w : World) :
    Calls Try.prog 10 #[.int .u64 n, .string s] w (MakesS (packed n s.data.toList) w) := by
  have hp1 := Uv.put_len n (by omega)
  have hp2 := Uv.put_len s.size (by omega)
  have H1 := Lib.hid (fun w => put_any n hn w)
  have H2 := Lib.hid (fun w => put_any s.size (by omega) w)
  have HPK : Hid (packed n s.data.toList = packS n s.data.toList ++ be8 (Hs.hash HS (packS n s.data.toList))) := packed_eq _ _
  have HPS : Hid (packS n s.data.toList = Uv.put n ++ Uv.put s.size ++ s.data.toList) := show _ = _ by unfold packS; rw [len_eq]
  generalize Uv.put n = a at hp1 H1 HPS
  generalize Uv.put s.size = b at hp2 H2 HPS
  go_enter Try.func10, Try.ntmps10
  go_wp2_with fail
  refine (H1.out _).mono ?_
  rintro e w1 ⟨rfl, h1⟩
  go_wp2_with fail
  refine (H2.out _).mono ?_
  rintro e w2 ⟨rfl, h2⟩
  have h12 : Held w w2 := Held.step h1 h2
  have hcat : (({ data := a.toArray } : ByteArray) ++ { data := b.toArray } ++ s).data.toList = packS n s.data.toList := by rw [HPS.out]; simp
  have hsz : (({ data := a.toArray } : ByteArray) ++ { data := b.toArray } ++ s).size ≤ 2000000000000 := by rw [ByteArray.size_append, ByteArray.size_append, ba_size, ba_size]; omega
  have HCT := Lib.hid hcat
  have HZ := Lib.hid hsz
  have HS0 := Lib.hid hsz
  have H12 := Lib.hid h12
  clear hcat hsz h1 h2 h12 H1 H2
  go_wp2_with fail
  generalize (({ data := a.toArray } : ByteArray) ++ { data := b.toArray } ++ s) = q at HCT HZ HS0 ⊢
  refine (sum_any q (by have := HZ.out; omega) _).mono ?_
  rintro e w3 ⟨rfl, h3⟩
  rw [HCT.out]
  have e8 := be8_len (Hs.hash HS (packS n s.data.toList))
  generalize be8 (Hs.hash HS (packS n s.data.toList)) = e8l at e8 HPK ⊢
  have e9 : e8l.length ≤ 8 := by omega
  have e10 := HS0.out
  have E8 := Lib.hid e8
  clear e8
  go_wp2_with fail
  go_ret
  exact ⟨ret_str (by rw [HPK.out]; simp [HCT.out]), H12.out.step h3⟩
set_option maxHeartbeats 400000 in
theorem pack_ref_any (n : Nat) (s : ByteArray) (hn : (n : Int) ≤ 18446744073709551615) (hs : (s.size : Int) ≤ 1000000000000) (w : World) :
    Calls Try.prog 12 #[.int .u64 n, .string s] w (MakesS (packed n s.data.toList) w) := by
  have hp1 := Uv.put_len n (by omega)
  have hp2 := Uv.put_len s.size (by omega)
  have H1 := Lib.hid (fun w => put_ref_any n hn w)
  have H2 := Lib.hid (fun w => put_ref_any s.size (by omega) w)
  have HPK : Hid (packed n s.data.toList = packS n s.data.toList ++ be8 (Hs.hash HS (packS n s.data.toList))) := packed_eq _ _
  have HPS : Hid (packS n s.data.toList = Uv.put n ++ Uv.put s.size ++ s.data.toList) := show _ = _ by unfold packS; rw [len_eq]
  generalize Uv.put n = a at hp1 H1 HPS
  generalize Uv.put s.size = b at hp2 H2 HPS
  go_enter Try.func12, Try.ntmps12
  go_wp2_with fail
  refine (H1.out _).mono ?_
  rintro e w1 ⟨rfl, h1⟩
  go_wp2_with fail
  refine (H2.out _).mono ?_
  rintro e w2 ⟨rfl, h2⟩
  have h12 : Held w w2 := Held.step h1 h2
  have hcat : (({ data := a.toArray } : ByteArray) ++ { data := b.toArray } ++ s).data.toList = packS n s.data.toList := by rw [HPS.out]; simp
  have hsz : (({ data := a.toArray } : ByteArray) ++ { data := b.toArray } ++ s).size ≤ 2000000000000 := by rw [ByteArray.size_append, ByteArray.size_append, ba_size, ba_size]; omega
  have HCT := Lib.hid hcat
  have HZ := Lib.hid hsz
  have HS0 := Lib.hid hsz
  have H12 := Lib.hid h12
  clear hcat hsz h1 h2 h12 H1 H2
  go_wp2_with fail
  generalize (({ data := a.toArray } : ByteArray) ++ { data := b.toArray } ++ s) = q at HCT HZ HS0 ⊢
  refine (hash_ref_any Lg.HS q (by decide) (by have := HZ.out; omega) _).mono ?_
  rintro e w3 ⟨rfl, rfl⟩
  have hh := Hs.hash_lt Lg.HS q.data.toList (by decide)
  rw [HCT.out] at hh ⊢
  go_wp2_with fail
  refine (eight_any _ (by unfold Lg.HS at *; omega) _).mono ?_
  rintro e w4 ⟨rfl, h3⟩
  have e8 := be8_len (Hs.hash Lg.HS (packS n s.data.toList))
  generalize be8 (Hs.hash Lg.HS (packS n s.data.toList)) = e8l at e8 HPK ⊢
  have e9 : e8l.length ≤ 8 := by omega
  have e10 := HS0.out
  clear e8
  go_wp2_with fail
  go_ret
  exact ⟨ret_str (by rw [HPK.out]; simp [HCT.out]), H12.out.step h3⟩
end Lgc
end Go.Proofs.Ytdacgdokbfcgdaa
