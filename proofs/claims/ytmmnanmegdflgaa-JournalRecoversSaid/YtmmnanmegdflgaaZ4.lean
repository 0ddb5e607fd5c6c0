/-
  Contracts: sealed segments: the hash's bytes, Seal and Open of eventlog and of its reference.
  Contracts: an operation encoded, by the program (chapter 42).
  Contracts: Encode of the program (chapter 42).
  Rows of the call's own, written in place: over any program.
  What a call has in memory of its own, as a list of pieces (boxes, rows): over any program.
  Pieces of memory: some of them, in another order (over any program).
-/
import Derived.Test.YtmmnanmegdflgaaZ3
import Derived.Test.YtmmnanmegdflgaaZ2
import Derived.Lib.AppendStr
import Derived.Outline
import Derived.Test.YtmmnanmegdflgaaZ1
import Derived.WalkKit
import Derived.OwnWalk
set_option linter.unusedVariables false
set_option maxRecDepth 100000
namespace Go.Proofs.Ytmmnanmegdflgaa
open Go.RowKit
namespace Lgc
open Lg Strs
/-- The call hands back the string of these bytes; what was there stays. -/
def MakesS (l : List UInt8) (w : World) (e : Ending) (w' : World) : Prop := e = .returned (.string ⟨l.toArray⟩) ∧ Held w w'
/-- The bytes written so far. -/
def arr (h : Nat) (k : Nat) : Array Value := ((List.range 8).map fun i => Value.int .u8 (if i < k then ((UInt8.ofNat (h / 256 ^ (7 - i) % 256)).toNat : Int) else 0)).toArray
theorem arr_step (h k : Nat) (hk : k < 8) : (arr h k).setIfInBounds k (.int .u8 ((h / 256 ^ (7 - k) % 256 : Nat) : Int)) = arr h (k + 1) := by
  have e : ((UInt8.ofNat (h / 256 ^ (7 - k) % 256)).toNat : Int) = ((h / 256 ^ (7 - k) % 256 : Nat) : Int) := by rw [Uv.ofNat_toNat (Nat.mod_lt _ (by omega))]
  rw [← e]
  apply Array.ext
  · simp [arr]
  · intro i h1 h2
    simp only [arr, List.size_toArray, List.length_map, List.length_range] at h2
    rw [Array.getElem_setIfInBounds (by simpa [arr] using h2)]
    by_cases hik : k = i
    · subst hik; simp [arr]
    · rw [if_neg hik]
      simp only [arr, List.getElem_toArray, List.getElem_map, List.getElem_range]
      have h3 : (i < k) ↔ (i < k + 1) := by omega
      simp only [h3]
theorem arr_zero (h : Nat) : arr h 0 = #[.int .u8 0, .int .u8 0, .int .u8 0, .int .u8 0, .int .u8 0, .int .u8 0, .int .u8 0, .int .u8 0] := by simp [arr, List.range, List.range.loop]
theorem arr_at (h j : Nat) (hj : j < (be8 h).length) : (arr h 8)[j]? = some (.int .u8 (be8 h)[j].toNat) := by
  rw [be8_len] at hj
  simp [arr, be8, hj]
theorem sum_any (s : ByteArray) (hs : s.size ≤ 9223372036854775807) (w : World) :
    Calls Try.prog 92 #[.string s] w (MakesS (be8 (Hs.hash HS s.data.toList)) w) := by
  have hlt : Hs.hash HS s.data.toList < 18446744073709551616 := Hs.hash_lt _ _ (by decide)
  have hh := Lib.hid (hash_any HS s (by decide) hs w)
  generalize Hs.hash HS s.data.toList = h at *
  have hh64 : (h : Int) ≤ 18446744073709551615 := by omega
  clear hlt
  go_enter Try.func92, Try.ntmps92
  go_wp2_with fail
  refine hh.out.mono ?_
  rintro e w' ⟨rfl, rfl⟩
  go_wp2_with fail
  go_loopw [8] (fun i wr => ∃ k : Nat, k ≤ 8 ∧ i = .int .i64 k ∧ wr.heap[w.heap.size]? = some (.cells (arr h k) 120 (0, 0)) ∧ Held w wr) (fun i _ => 8 - (intOf i).toNat)
  case atStart => exact ⟨0, by omega, rfl, by rw [arr_zero]; exact box_new _ _, (Held.refl _).alloc _⟩
  case round =>
    obtain ⟨k, hk, rfl, hbx, hw⟩ := hrel
    by_cases hk8 : k < 8
    · have HB := Lib.hid hbx
      have HW := Lib.hid hw
      have hst := arr_step h k hk8
      have HST := Lib.hid hst
      have cc : ∃ v, wr.cell? ⟨w.heap.size, k, none⟩ = some v := by
        have hsz : k < (arr h k).size := by simpa [arr] using hk8
        exact ⟨_, box_cell hbx k (Array.getElem?_eq_getElem hsz)⟩
      obtain ⟨cv, c0⟩ := cc
      have f0 := box_free hbx k
      clear hst hbx hw
      obtain rfl | rfl | rfl | rfl | rfl | rfl | rfl | rfl : k = 0 ∨ k = 1 ∨ k = 2 ∨ k = 3 ∨ k = 4 ∨ k = 5 ∨ k = 6 ∨ k = 7 := by omega
      all_goals
        go_wp2
        go_roundw
        case rel =>
          refine ⟨_, ?_, rfl, ?_, HW.out.set (Nat.le_refl _) _⟩
          · decide
          · rw [box_set HB.out, ← HST.out]
            congr 4 <;> first | (simp; done) | (simp; omega)
        case measure => simp [intOf]
    · obtain rfl : k = 8 := by omega
      have hcv := bytes_back wr ⟨w.heap.size, 0, none⟩ 8 (be8 h) (fun j hj => by rw [Strs.addr_add]; exact box_cell hbx j (arr_at h j hj))
      rw [be8_len] at hcv
      go_wp2
      go_ret
      exact ⟨rfl, hw⟩
theorem range_snoc (x k : Nat) (hk : k < 8) : (be8 x).take (k + 1) = (be8 x).take k ++ [UInt8.ofNat (x / 256 ^ (7 - k) % 256)] := by
  have hl : k < (be8 x).length := by rw [be8_len]; exact hk
  rw [List.take_succ_eq_append_getElem hl]
  congr 2
  simp [be8]
theorem eight_any (x : Nat) (hx : (x : Int) ≤ 18446744073709551615) (w : World) :
    Calls Try.prog 77 #[.int .u64 x] w (MakesS (be8 x) w) := by
  go_enter Try.func77, Try.ntmps77
  go_wp2
  go_loopw [3, 4] (fun v i wr => ∃ k : Nat, k ≤ 8 ∧ i = .int .i64 (56 - 8 * (k : Int)) ∧ wr.ownsRow w.heap.size 5 1 v ((be8 x).take k).length (by8 ((be8 x).take k)) ∧ Held w wr) (fun _ i _ => (intOf i + 8).toNat)
  case atStart => exact ⟨0, by omega, rfl, World.ownsRow_nil _ _ _ _, Held.refl _⟩
  case round =>
    obtain ⟨k, hk, rfl, hown, hw⟩ := hrel
    have hsz := hw.le
    have hll : ((be8 x).take k).length ≤ 8 := by rw [List.length_take, be8_len]; omega
    have HO := Lib.hid hown
    have HW := Lib.hid hw
    by_cases hk8 : k < 8
    · have HS := Lib.hid (range_snoc x k hk8)
      generalize (be8 x).take k = l at hown hll HS HO
      clear hw
      obtain rfl | rfl | rfl | rfl | rfl | rfl | rfl | rfl : k = 0 ∨ k = 1 ∨ k = 2 ∨ k = 3 ∨ k = 4 ∨ k = 5 ∨ k = 6 ∨ k = 7 := by omega
      · go_wp2_with (at_builtin; refine app_u8 _ rfl _ _ rfl w.heap.size _ l [UInt8.ofNat (x / 256 ^ (7 - 0) % 256)] ⟨wr.heap.size, 0, none⟩ 1 1 rfl (hown.alloc _) rfl rfl (one_cell _ _ _ (by rw [Uv.ofNat_toNat (Nat.mod_lt _ (by decide))]; first | (simp; done) | (simp; omega)) _) (by omega) (by simp; omega) ?_; intro v' w1 hown1 hg1 _)
        go_roundw
        case rel => exact ⟨1, by decide, rfl, by rw [HS.out]; exact hown1, below_app HW.out hsz HO.out hg1⟩
        case measure => simp [intOf]
      · go_wp2_with (at_builtin; refine app_u8 _ rfl _ _ rfl w.heap.size _ l [UInt8.ofNat (x / 256 ^ (7 - 1) % 256)] ⟨wr.heap.size, 0, none⟩ 1 1 rfl (hown.alloc _) rfl rfl (one_cell _ _ _ (by rw [Uv.ofNat_toNat (Nat.mod_lt _ (by decide))]; first | (simp; done) | (simp; omega)) _) (by omega) (by simp; omega) ?_; intro v' w1 hown1 hg1 _)
        go_roundw
        case rel => exact ⟨2, by decide, rfl, by rw [HS.out]; exact hown1, below_app HW.out hsz HO.out hg1⟩
        case measure => simp [intOf]
      · go_wp2_with (at_builtin; refine app_u8 _ rfl _ _ rfl w.heap.size _ l [UInt8.ofNat (x / 256 ^ (7 - 2) % 256)] ⟨wr.heap.size, 0, none⟩ 1 1 rfl (hown.alloc _) rfl rfl (one_cell _ _ _ (by rw [Uv.ofNat_toNat (Nat.mod_lt _ (by decide))]; first | (simp; done) | (simp; omega)) _) (by omega) (by simp; omega) ?_; intro v' w1 hown1 hg1 _)
        go_roundw
        case rel => exact ⟨3, by decide, rfl, by rw [HS.out]; exact hown1, below_app HW.out hsz HO.out hg1⟩
        case measure => simp [intOf]
      · go_wp2_with (at_builtin; refine app_u8 _ rfl _ _ rfl w.heap.size _ l [UInt8.ofNat (x / 256 ^ (7 - 3) % 256)] ⟨wr.heap.size, 0, none⟩ 1 1 rfl (hown.alloc _) rfl rfl (one_cell _ _ _ (by rw [Uv.ofNat_toNat (Nat.mod_lt _ (by decide))]; first | (simp; done) | (simp; omega)) _) (by omega) (by simp; omega) ?_; intro v' w1 hown1 hg1 _)
        go_roundw
        case rel => exact ⟨4, by decide, rfl, by rw [HS.out]; exact hown1, below_app HW.out hsz HO.out hg1⟩
        case measure => simp [intOf]
      · go_wp2_with (at_builtin; refine app_u8 _ rfl _ _ rfl w.heap.size _ l [UInt8.ofNat (x / 256 ^ (7 - 4) % 256)] ⟨wr.heap.size, 0, none⟩ 1 1 rfl (hown.alloc _) rfl rfl (one_cell _ _ _ (by rw [Uv.ofNat_toNat (Nat.mod_lt _ (by decide))]; first | (simp; done) | (simp; omega)) _) (by omega) (by simp; omega) ?_; intro v' w1 hown1 hg1 _)
        go_roundw
        case rel => exact ⟨5, by decide, rfl, by rw [HS.out]; exact hown1, below_app HW.out hsz HO.out hg1⟩
        case measure => simp [intOf]
      · go_wp2_with (at_builtin; refine app_u8 _ rfl _ _ rfl w.heap.size _ l [UInt8.ofNat (x / 256 ^ (7 - 5) % 256)] ⟨wr.heap.size, 0, none⟩ 1 1 rfl (hown.alloc _) rfl rfl (one_cell _ _ _ (by rw [Uv.ofNat_toNat (Nat.mod_lt _ (by decide))]; first | (simp; done) | (simp; omega)) _) (by omega) (by simp; omega) ?_; intro v' w1 hown1 hg1 _)
        go_roundw
        case rel => exact ⟨6, by decide, rfl, by rw [HS.out]; exact hown1, below_app HW.out hsz HO.out hg1⟩
        case measure => simp [intOf]
      · go_wp2_with (at_builtin; refine app_u8 _ rfl _ _ rfl w.heap.size _ l [UInt8.ofNat (x / 256 ^ (7 - 6) % 256)] ⟨wr.heap.size, 0, none⟩ 1 1 rfl (hown.alloc _) rfl rfl (one_cell _ _ _ (by rw [Uv.ofNat_toNat (Nat.mod_lt _ (by decide))]; first | (simp; done) | (simp; omega)) _) (by omega) (by simp; omega) ?_; intro v' w1 hown1 hg1 _)
        go_roundw
        case rel => exact ⟨7, by decide, rfl, by rw [HS.out]; exact hown1, below_app HW.out hsz HO.out hg1⟩
        case measure => simp [intOf]
      · go_wp2_with (at_builtin; refine app_u8 _ rfl _ _ rfl w.heap.size _ l [UInt8.ofNat (x / 256 ^ (7 - 7) % 256)] ⟨wr.heap.size, 0, none⟩ 1 1 rfl (hown.alloc _) rfl rfl (one_cell _ _ _ (by rw [Uv.ofNat_toNat (Nat.mod_lt _ (by decide))]; first | (simp; done) | (simp; omega)) _) (by omega) (by simp; omega) ?_; intro v' w1 hown1 hg1 _)
        go_roundw
        case rel => exact ⟨8, by decide, rfl, by rw [HS.out]; exact hown1, below_app HW.out hsz HO.out hg1⟩
        case measure => simp [intOf]
    · obtain rfl : k = 8 := by omega
      have hT : (be8 x).take 8 = be8 x := List.take_of_length_le (by rw [be8_len]; omega)
      rw [hT] at hown
      have hcv := conv_own hown
      clear hT hll
      go_wp2
      go_ret
      exact ⟨rfl, hw⟩
theorem str_mk {s : ByteArray} {l : List UInt8} (h : s.data.toList = l) : s = ⟨l.toArray⟩ := by subst h; simp
theorem ret_str {s : ByteArray} {l : List UInt8} (h : s.data.toList = l) : Ending.returned (.string s) = .returned (.string ⟨l.toArray⟩) := by rw [str_mk h]
theorem ba_size (a : List UInt8) : (⟨a.toArray⟩ : ByteArray).size = a.length := by simp [ByteArray.size]
theorem pack_size (n : Nat) (hn : n < 18446744073709551616) (m : Nat) (hm : m < 18446744073709551616) : (Uv.put n).length ≤ 10 ∧ (Uv.put m).length ≤ 10 := ⟨Uv.put_len n hn, Uv.put_len m hm⟩
set_option maxHeartbeats 400000 in
theorem pack_any (n : Nat) (s : ByteArray) (hn : (n : Int) ≤ 18446744073709551615) (hs : (s.size : Int) ≤ 1000000000000) (w : World) :
    Calls Try.prog 76 #[.int .u64 n, .string s] w (MakesS (packed n s.data.toList) w) := by
  have hp1 := Uv.put_len n (by omega)
  have hp2 := Uv.put_len s.size (by omega)
  have H1 := Lib.hid (fun w => put_any n hn w)
  have H2 := Lib.hid (fun w => put_any s.size (by omega) w)
  have HPK : Hid (packed n s.data.toList = packS n s.data.toList ++ be8 (Hs.hash HS (packS n s.data.toList))) := packed_eq _ _
  have HPS : Hid (packS n s.data.toList = Uv.put n ++ Uv.put s.size ++ s.data.toList) := show _ = _ by unfold packS; rw [len_eq]
  generalize Uv.put n = a at hp1 H1 HPS
  generalize Uv.put s.size = b at hp2 H2 HPS
  go_enter Try.func76, Try.ntmps76
  go_wp2_with fail
  refine (H1.out _).mono ?_
  rintro e w1 ⟨rfl, h1⟩
  go_wp2_with fail
  refine (H2.out _).mono ?_
  rintro e w2 ⟨rfl, h2⟩
  have h12 : Held w w2 := Held.step h1 h2
  have hcat : (({ data := a.toArray } : ByteArray) ++ { data := b.toArray } ++ s).data.toList = packS n s.data.toList := by rw [HPS.out]; simp
  have hsz : (({ data := a.toArray } : ByteArray) ++ { data := b.toArray } ++ s).size ≤ 2000000000000 := by rw [ByteArray.size_append, ByteArray.size_append, ba_size, ba_size]; omega
  have HCT := Lib.hid hcat
  have HZ := Lib.hid hsz
  have HS0 := Lib.hid hsz
  have H12 := Lib.hid h12
  clear hcat hsz h1 h2 h12 H1 H2
  go_wp2_with fail
  generalize (({ data := a.toArray } : ByteArray) ++ { data := b.toArray } ++ s) = q at HCT HZ HS0 ⊢
  refine (sum_any q (by have := HZ.out; omega) _).mono ?_
  rintro e w3 ⟨rfl, h3⟩
  rw [HCT.out]
  have e8 := be8_len (Hs.hash HS (packS n s.data.toList))
  generalize be8 (Hs.hash HS (packS n s.data.toList)) = e8l at e8 HPK ⊢
  have e9 : e8l.length ≤ 8 := by omega
  have e10 := HS0.out
  have E8 := Lib.hid e8
  clear e8
  go_wp2_with fail
  go_ret
  exact ⟨ret_str (by rw [HPK.out]; simp [HCT.out]), H12.out.step h3⟩
set_option maxHeartbeats 400000 in
theorem pack_ref_any (n : Nat) (s : ByteArray) (hn : (n : Int) ≤ 18446744073709551615) (hs : (s.size : Int) ≤ 1000000000000) (w : World) :
    Calls Try.prog 53 #[.int .u64 n, .string s] w (MakesS (packed n s.data.toList) w) := by
  have hp1 := Uv.put_len n (by omega)
  have hp2 := Uv.put_len s.size (by omega)
  have H1 := Lib.hid (fun w => put_ref_any n hn w)
  have H2 := Lib.hid (fun w => put_ref_any s.size (by omega) w)
  have HPK : Hid (packed n s.data.toList = packS n s.data.toList ++ be8 (Hs.hash HS (packS n s.data.toList))) := packed_eq _ _
  have HPS : Hid (packS n s.data.toList = Uv.put n ++ Uv.put s.size ++ s.data.toList) := show _ = _ by unfold packS; rw [len_eq]
  generalize Uv.put n = a at hp1 H1 HPS
  generalize Uv.put s.size = b at hp2 H2 HPS
  go_enter Try.func53, Try.ntmps53
  go_wp2_with fail
  refine (H1.out _).mono ?_
  rintro e w1 ⟨rfl, h1⟩
  go_wp2_with fail
  refine (H2.out _).mono ?_
  rintro e w2 ⟨rfl, h2⟩
  have h12 : Held w w2 := Held.step h1 h2
  have hcat : (({ data := a.toArray } : ByteArray) ++ { data := b.toArray } ++ s).data.toList = packS n s.data.toList := by rw [HPS.out]; simp
  have hsz : (({ data := a.toArray } : ByteArray) ++ { data := b.toArray } ++ s).size ≤ 2000000000000 := by rw [ByteArray.size_append, ByteArray.size_append, ba_size, ba_size]; omega
  have HCT := Lib.hid hcat
  have HZ := Lib.hid hsz
  have HS0 := Lib.hid hsz
  have H12 := Lib.hid h12
  clear hcat hsz h1 h2 h12 H1 H2
  go_wp2_with fail
  generalize (({ data := a.toArray } : ByteArray) ++ { data := b.toArray } ++ s) = q at HCT HZ HS0 ⊢
  refine (hash_ref_any Lg.HS q (by decide) (by have := HZ.out; omega) _).mono ?_
  rintro e w3 ⟨rfl, rfl⟩
  have hh := Hs.hash_lt Lg.HS q.data.toList (by decide)
  rw [HCT.out] at hh ⊢
  go_wp2_with fail
  refine (eight_any _ (by unfold Lg.HS at *; omega) _).mono ?_
  rintro e w4 ⟨rfl, h3⟩
  have e8 := be8_len (Hs.hash Lg.HS (packS n s.data.toList))
  generalize be8 (Hs.hash Lg.HS (packS n s.data.toList)) = e8l at e8 HPK ⊢
  have e9 : e8l.length ≤ 8 := by omega
  have e10 := HS0.out
  clear e8
  go_wp2_with fail
  go_ret
  exact ⟨ret_str (by rw [HPK.out]; simp [HCT.out]), H12.out.step h3⟩
end Lgc
end Go.Proofs.Ytmmnanmegdflgaa

set_option linter.unusedVariables false
set_option linter.unusedSimpArgs false
set_option maxRecDepth 100000
namespace Go.Proofs.Ytmmnanmegdflgaa
open Go.RowKit Go.Lib
namespace Jn
open Ad Lgc Strs
/-- An operation as a value, as cells. -/
def manC (o : Man) : Array Value := #[.int .i64 o.k, .string o.nm, .int .i64 o.a, .int .i64 o.b, .int .i64 o.d.r, .int .i64 o.d.l, .int .i64 o.d.c, .int .i64 o.d.g, .int .i64 o.c.m, .int .i64 o.c.c, .bool o.c.up]
theorem strCells_eq (s : ByteArray) : strCells s = by8 s.data.toList := by
  unfold strCells by8; rfl
theorem grown_box {w w1 : World} {base : Nat} {v : Value} {e : TypeId} {size n : Nat} {xs : List Value} {q : Nat} {cs : Array Value} {t : TypeId} (hown : w.ownsRow base e size v n xs) (hq : w.heap[q]? = some (.cells cs t (0, 0))) (ht : t ≠ e)
    (hg : w.grownBy w1 v.ownBlock) : w1.heap[q]? = some (.cells cs t (0, 0)) := by
  rw [hg.block q (box_lt hq) ?_]
  · exact hq
  · intro e1
    rcases hown.2 with ⟨rfl, _⟩ | ⟨g, cap, cur, rfl, _, hh, _⟩
    · simp [Value.ownBlock] at e1
    · simp [Value.ownBlock] at e1
      subst e1
      rw [hq] at hh
      simp at hh
      exact ht hh.2
/-- Bytes appended to a row of the caller's. -/
def PutTo (base : Nat) (v : Value) (l : List UInt8) (w : World) (e : Ending) (w' : World) : Prop := ∃ v', e = .returned v' ∧ w'.ownsRow base 5 1 v' l.length (by8 l) ∧ w.grownBy w' v.ownBlock
theorem own_heldB {w w1 : World} {base : Nat} {v : Value} {e : TypeId} {size n : Nat} {xs : List Value} (h : w.ownsRow base e size v n xs) (hw : Held w w1) : w1.ownsRow base e size v n xs := by
  refine ⟨h.1, ?_⟩
  rcases h.2 with h2 | ⟨g, cap, cur, hv, hb, hh, r⟩
  · exact .inl h2
  · exact .inr ⟨g, cap, cur, hv, hb, by rw [hw.block g (box_lt hh)]; exact hh, r⟩
theorem app_str (w : World) {ops : Array Oper} {rest : List Oper} {o : Oper} {a : Act} {Q : Exit → Act → World → Prop} (hgd : o.guard = none) (s x : Operand)
    (ho : o.op = .call { callee := .builtin .append, args := #[s, x], argTypes := #[52, 9] }) (base : Nat) (v : Value) (l : List UInt8) (t : ByteArray)
    (hs : a.eval s = v) (hown : w.ownsRow base 5 1 v l.length (by8 l)) (hx : a.eval x = .string t) (hb : l.length + t.size ≤ 140737488355328) (hbase : base ≤ w.heap.size)
    (h : ∀ v' w', w'.ownsRow base 5 1 v' (l ++ t.data.toList).length (by8 (l ++ t.data.toList)) → w.grownBy w' v.ownBlock → wpList Try.prog ops Q rest (a.put o.dst v') w') :
    wpList Try.prog ops Q (o :: rest) a w := by
  obtain ⟨i0, hi, hz0, hz1, hz2⟩ := info_parts Tryinfo_u8
  refine wpList_append_own_string w hgd s x 52 9 ho base 5 i0 Try.underlying52 Try.underlying9 hi hz0 hz1 hz2 v l.length (by8 l) hs hown t hx (by unfold maxLen; omega) hb hbase ?_
  intro v' w' h1 h2 _
  refine h v' w' ?_ h2
  rw [by8_append, List.length_append, ← strCells_eq]
  simpa using h1
theorem u64_wrap (x : Int) : IntKind.u64.wrap x = ((u64 x : Nat) : Int) := by
  unfold u64 IntKind.wrap; simp [IntKind.signed, IntKind.bits]; omega
theorem putInt_any (base : Nat) (v : Value) (l : List UInt8) (x : Int) (w : World) (h : w.ownsRow base 5 1 v l.length (by8 l)) (hl : (l.length : Int) ≤ 70368744177664) (hb : base ≤ w.heap.size) :
    Calls Try.prog 33 #[v, .int .i64 x] w (PutTo base v (l ++ Uv.put (u64 x)) w) := by
  have HO := Lib.hid h
  have HU := Lib.hid (u64_wrap x)
  have hlt := u64_lt x
  have hpl := Uv.put_len (u64 x) hlt
  obtain ⟨n, hn⟩ : ∃ n, u64 x = n := ⟨_, rfl⟩
  rw [hn] at HU hlt hpl ⊢
  have hlt' : (n : Int) ≤ 18446744073709551615 := by omega
  clear h hn
  go_enter Try.func33, Try.ntmps33
  go_wp2_with (first | (go_at_call 66; rw [HU.out]; refine (put_any n hlt' _).mono ?_; rintro e w1 ⟨rfl, h1⟩) | (refine app_str _ rfl _ _ rfl base v l _ rfl (own_heldB HO.out h1) rfl (by rw [ba_size]; omega) (by have := Held.le h1; omega) ?_; intro v' w2 hown2 hg2))
  go_ret
  exact ⟨_, rfl, hown2, grown_trans (grown_held h1) hg2⟩
theorem putInt_to (base : Nat) (v : Value) (l M : List UInt8) (x : Int) (w : World) (hM : l ++ Uv.put (u64 x) = M) (h : w.ownsRow base 5 1 v l.length (by8 l)) (hl : (l.length : Int) ≤ 70368744177664) (hb : base ≤ w.heap.size) :
    Calls Try.prog 33 #[v, .int .i64 x] w (PutTo base v M w) := by
  subst hM
  exact putInt_any base v l x w h hl hb
end Jn
end Go.Proofs.Ytmmnanmegdflgaa

set_option linter.unusedVariables false
set_option linter.unusedSimpArgs false
set_option maxRecDepth 100000
namespace Go.Proofs.Ytmmnanmegdflgaa
open Go.RowKit Go.Lib
namespace Jn
open Ad Lgc Strs
theorem held_row {W w w1 : World} {v : Value} {n : Nat} {xs : List Value} (hb : Held W w) (hown : w.ownsRow W.heap.size 5 1 v n xs) (hg : w.grownBy w1 v.ownBlock) : Held W w1 := held_grown hb hown hg
theorem encH_len (o : Man) (h : (o.nm.size : Int) ≤ 1000000000000) : ((encH o).length : Int) ≤ 1000000000100 := by
  have h1 := Uv.put_len (u64 o.k) (u64_lt _)
  have h2 := Uv.put_len o.nm.data.toList.length (by have := len_eq o.nm; omega)
  unfold encH
  simp only [List.length_append]
  have := len_eq o.nm
  omega
theorem encode_any (k : Int) (nm : ByteArray) (a b r l c g m cc : Int) (up : Bool) (hs : (nm.size : Int) ≤ 1000000000000) (w : World) :
    Calls Try.prog 11 #[.agg #[.int .i64 k, .string nm, .int .i64 a, .int .i64 b, .int .i64 r, .int .i64 l, .int .i64 c, .int .i64 g, .int .i64 m, .int .i64 cc, .bool up]] w
      (MakesS (enc ⟨k, nm, a, b, ⟨r, l, c, g⟩, ⟨m, cc, up⟩⟩) w) := by
  obtain ⟨z, hz⟩ : ∃ z, upZ up = z := ⟨_, rfl⟩
  have HE : Hid (enc ⟨k, nm, a, b, ⟨r, l, c, g⟩, ⟨m, cc, up⟩⟩ = encH ⟨k, nm, a, b, ⟨r, l, c, g⟩, ⟨m, cc, up⟩⟩ ++ encN [a, b, r, l, c, g, m, cc, z]) := show _ = _ by subst hz; rfl
  have HH : Hid (encH ⟨k, nm, a, b, ⟨r, l, c, g⟩, ⟨m, cc, up⟩⟩ = [] ++ Uv.put (u64 k) ++ Uv.put (u64 nm.size) ++ nm.data.toList) := show _ = _ by
    unfold encH; simp only [List.nil_append, List.append_assoc]
    rw [show u64 (nm.size : Int) = nm.data.toList.length by unfold u64; rw [len_eq]; omega]
  have hHl := encH_len ⟨k, nm, a, b, ⟨r, l, c, g⟩, ⟨m, cc, up⟩⟩ hs
  generalize encH ⟨k, nm, a, b, ⟨r, l, c, g⟩, ⟨m, cc, up⟩⟩ = E at *
  generalize enc ⟨k, nm, a, b, ⟨r, l, c, g⟩, ⟨m, cc, up⟩⟩ = F at *
  have hp1 := Uv.put_len (u64 k) (u64_lt _)
  have hp2 := Uv.put_len (u64 nm.size) (u64_lt _)
  obtain ⟨L1, hL1⟩ : ∃ L1, [] ++ Uv.put (u64 k) = L1 := ⟨_, rfl⟩
  have HL1 := Lib.hid hL1
  have hl1 : L1.length ≤ 10 := by rw [← hL1]; simpa using hp1
  rw [hL1] at HH
  clear hL1 hp1
  obtain ⟨L2, hL2⟩ : ∃ L2, L1 ++ Uv.put (u64 nm.size) = L2 := ⟨_, rfl⟩
  have HL2 := Lib.hid hL2
  have hl2 : L2.length ≤ 20 := by rw [← hL2, List.length_append]; omega
  rw [hL2] at HH
  clear hL2 hp2
  have hi : ∀ j : Nat, j < 9 → ∃ x, [a, b, r, l, c, g, m, cc, z][j]? = some x ∧ ∀ w : World, (Instr.index 69 (.agg #[.int .i64 a, .int .i64 b, .int .i64 r, .int .i64 l, .int .i64 c, .int .i64 g, .int .i64 m, .int .i64 cc, .int .i64 z]) (.int .i64 j)).run Try.prog w = .ok (.int .i64 x) w := by
    intro j hj
    rcases j with _ | _ | _ | _ | _ | _ | _ | _ | _ | j
    all_goals first | exact ⟨_, rfl, fun _ => by kernel_rfl⟩ | omega
  have HI := Lib.hid hi
  have HU := Lib.hid hz
  have hkey : (up = true ∧ z = 1) ∨ (up = false ∧ z = 0) := by
    subst hz
    cases up
    · exact .inr ⟨rfl, rfl⟩
    · exact .inl ⟨rfl, rfl⟩
  clear hi hz
  have hw0 := Held.le (Held.refl w)
  rcases hkey with ⟨rfl, rfl⟩ | ⟨rfl, rfl⟩
  · clear HU
    go_enter Try.func11, Try.ntmps11
    go_wp2_with fail
    refine (putInt_to w.heap.size _ [] L1 k _ HL1.out (World.ownsRow_nil _ _ _ _) (by simp) (by simp)).mono ?_
    rintro e w1 ⟨v1, rfl, o1, g1⟩
    have HB1 := Lib.hid (grown_box (World.ownsRow_nil _ w.heap.size 5 1) (box_new w _) (by decide) g1)
    have HH1 := Lib.hid (held_row ((Held.refl w).alloc _) (World.ownsRow_nil _ w.heap.size 5 1) g1)
    have HO1 := Lib.hid o1
    clear o1 g1
    have c1 := box_cell HB1.out 1 rfl
    go_wp2_with fail
    refine (putInt_to w.heap.size v1 L1 L2 nm.size _ HL2.out HO1.out (by omega) HH1.out.le).mono ?_
    rintro e w2 ⟨v2, rfl, o2, g2⟩
    have HB2 := Lib.hid (grown_box HO1.out HB1.out (by decide) g2)
    have HH2 := Lib.hid (held_row HH1.out HO1.out g2)
    have HO2 := Lib.hid o2
    clear o2 g2 c1
    have c1 := box_cell HB2.out 1 rfl
    have lw2 := HH2.out.le
    go_wp2_with (refine app_str _ rfl _ _ rfl w.heap.size v2 _ nm rfl HO2.out rfl (by omega) lw2 ?_; intro v3 w3 o3 g3; clear c1; have HB3 := Lib.hid (grown_box HO2.out HB2.out (by decide) g3); have HH3 := Lib.hid (held_row HH2.out HO2.out g3); have HO3 := Lib.hid o3; clear o3 g3; have d2 := box_cell HB3.out 2 rfl; have d3 := box_cell HB3.out 3 rfl; have d4 := box_cell HB3.out 4 rfl; have d5 := box_cell HB3.out 5 rfl; have d6 := box_cell HB3.out 6 rfl; have d7 := box_cell HB3.out 7 rfl; have d8 := box_cell HB3.out 8 rfl; have d9 := box_cell HB3.out 9 rfl; have d10 := box_cell HB3.out 10 rfl; have b3 := box_lt HB3.out)
    obtain ⟨w4, hw4⟩ : ∃ w4, w3.alloc (.cells #[.int .i64 r, .int .i64 l, .int .i64 c, .int .i64 g] 23) = w4 := ⟨_, rfl⟩
    have HH4 := Lib.hid (show Held w w4 by rw [← hw4]; exact HH3.out.alloc _)
    have HO4 := Lib.hid (show w4.ownsRow w.heap.size 5 1 v3 (L2 ++ nm.data.toList).length (by8 (L2 ++ nm.data.toList)) by rw [← hw4]; exact HO3.out.alloc _)
    rw [hw4]
    clear hw4 d2 d3 d4 d5 d6 d7 d8 d9 d10 b3
    go_loopw [3, 45] (fun v i wr => ∃ j : Nat, j ≤ 9 ∧ i = .int .i64 j ∧ wr.ownsRow w.heap.size 5 1 v (E ++ encN ([a, b, r, l, c, g, m, cc, 1].take j)).length (by8 (E ++ encN ([a, b, r, l, c, g, m, cc, 1].take j))) ∧ Held w wr) (fun _ i _ => 9 - (intOf i).toNat)
    case atStart => exact ⟨0, by omega, rfl, by rw [HH.out]; simpa [encN] using HO4.out, HH4.out⟩
    case round =>
      obtain ⟨j, hj, rfl, hown, hh⟩ := hrel
      have HO := Lib.hid hown
      have HHR := Lib.hid hh
      have hlw := hh.le
      have hle := encN_len ([a, b, r, l, c, g, m, cc, 1].take j)
      have hl9 : ([a, b, r, l, c, g, m, cc, 1].take j).length ≤ 9 := by rw [List.length_take]; simp; omega
      clear hown hh
      by_cases hlt : j < 9
      · obtain ⟨x, hx, ix⟩ := HI.out j hlt
        have HS := Lib.hid (encN_at hx)
        have hlE : ((E ++ encN ([a, b, r, l, c, g, m, cc, 1].take j)).length : Int) ≤ 70368744177664 := by rw [List.length_append]; omega
        clear hx
        go_wp2_with fail
        refine (putInt_to w.heap.size _ _ (E ++ encN ([a, b, r, l, c, g, m, cc, 1].take (j + 1))) x _ (by rw [HS.out, List.append_assoc]) HO.out hlE hlw).mono ?_
        rintro e w5 ⟨v5, rfl, o5, g5⟩
        have HO5 := Lib.hid o5
        have HH5 := Lib.hid (held_row HHR.out HO.out g5)
        clear o5 g5
        go_wp2
        go_roundw
        case rel => exact ⟨j + 1, by omega, by go_num, HO5.out, HH5.out⟩
        case measure => simp [intOf]; omega
      · obtain rfl : j = 9 := by omega
        have ho := HO.out
        rw [show [a, b, r, l, c, g, m, cc, 1].take 9 = [a, b, r, l, c, g, m, cc, 1] from rfl, ← HE.out] at ho
        have hcv := conv_own ho
        clear ho hle hl9
        go_wp2
        go_ret
        exact ⟨rfl, HHR.out⟩
  · clear HU
    go_enter Try.func11, Try.ntmps11
    go_wp2_with fail
    refine (putInt_to w.heap.size _ [] L1 k _ HL1.out (World.ownsRow_nil _ _ _ _) (by simp) (by simp)).mono ?_
    rintro e w1 ⟨v1, rfl, o1, g1⟩
    have HB1 := Lib.hid (grown_box (World.ownsRow_nil _ w.heap.size 5 1) (box_new w _) (by decide) g1)
    have HH1 := Lib.hid (held_row ((Held.refl w).alloc _) (World.ownsRow_nil _ w.heap.size 5 1) g1)
    have HO1 := Lib.hid o1
    clear o1 g1
    have c1 := box_cell HB1.out 1 rfl
    go_wp2_with fail
    refine (putInt_to w.heap.size v1 L1 L2 nm.size _ HL2.out HO1.out (by omega) HH1.out.le).mono ?_
    rintro e w2 ⟨v2, rfl, o2, g2⟩
    have HB2 := Lib.hid (grown_box HO1.out HB1.out (by decide) g2)
    have HH2 := Lib.hid (held_row HH1.out HO1.out g2)
    have HO2 := Lib.hid o2
    clear o2 g2 c1
    have c1 := box_cell HB2.out 1 rfl
    have lw2 := HH2.out.le
    go_wp2_with (refine app_str _ rfl _ _ rfl w.heap.size v2 _ nm rfl HO2.out rfl (by omega) lw2 ?_; intro v3 w3 o3 g3; clear c1; have HB3 := Lib.hid (grown_box HO2.out HB2.out (by decide) g3); have HH3 := Lib.hid (held_row HH2.out HO2.out g3); have HO3 := Lib.hid o3; clear o3 g3; have d2 := box_cell HB3.out 2 rfl; have d3 := box_cell HB3.out 3 rfl; have d4 := box_cell HB3.out 4 rfl; have d5 := box_cell HB3.out 5 rfl; have d6 := box_cell HB3.out 6 rfl; have d7 := box_cell HB3.out 7 rfl; have d8 := box_cell HB3.out 8 rfl; have d9 := box_cell HB3.out 9 rfl; have d10 := box_cell HB3.out 10 rfl; have b3 := box_lt HB3.out)
    obtain ⟨w4, hw4⟩ : ∃ w4, w3.alloc (.cells #[.int .i64 r, .int .i64 l, .int .i64 c, .int .i64 g] 23) = w4 := ⟨_, rfl⟩
    have HH4 := Lib.hid (show Held w w4 by rw [← hw4]; exact HH3.out.alloc _)
    have HO4 := Lib.hid (show w4.ownsRow w.heap.size 5 1 v3 (L2 ++ nm.data.toList).length (by8 (L2 ++ nm.data.toList)) by rw [← hw4]; exact HO3.out.alloc _)
    rw [hw4]
    clear hw4 d2 d3 d4 d5 d6 d7 d8 d9 d10 b3
    go_loopw [3, 45] (fun v i wr => ∃ j : Nat, j ≤ 9 ∧ i = .int .i64 j ∧ wr.ownsRow w.heap.size 5 1 v (E ++ encN ([a, b, r, l, c, g, m, cc, 0].take j)).length (by8 (E ++ encN ([a, b, r, l, c, g, m, cc, 0].take j))) ∧ Held w wr) (fun _ i _ => 9 - (intOf i).toNat)
    case atStart => exact ⟨0, by omega, rfl, by rw [HH.out]; simpa [encN] using HO4.out, HH4.out⟩
    case round =>
      obtain ⟨j, hj, rfl, hown, hh⟩ := hrel
      have HO := Lib.hid hown
      have HHR := Lib.hid hh
      have hlw := hh.le
      have hle := encN_len ([a, b, r, l, c, g, m, cc, 0].take j)
      have hl9 : ([a, b, r, l, c, g, m, cc, 0].take j).length ≤ 9 := by rw [List.length_take]; simp; omega
      clear hown hh
      by_cases hlt : j < 9
      · obtain ⟨x, hx, ix⟩ := HI.out j hlt
        have HS := Lib.hid (encN_at hx)
        have hlE : ((E ++ encN ([a, b, r, l, c, g, m, cc, 0].take j)).length : Int) ≤ 70368744177664 := by rw [List.length_append]; omega
        clear hx
        go_wp2_with fail
        refine (putInt_to w.heap.size _ _ (E ++ encN ([a, b, r, l, c, g, m, cc, 0].take (j + 1))) x _ (by rw [HS.out, List.append_assoc]) HO.out hlE hlw).mono ?_
        rintro e w5 ⟨v5, rfl, o5, g5⟩
        have HO5 := Lib.hid o5
        have HH5 := Lib.hid (held_row HHR.out HO.out g5)
        clear o5 g5
        go_wp2
        go_roundw
        case rel => exact ⟨j + 1, by omega, by go_num, HO5.out, HH5.out⟩
        case measure => simp [intOf]; omega
      · obtain rfl : j = 9 := by omega
        have ho := HO.out
        rw [show [a, b, r, l, c, g, m, cc, 0].take 9 = [a, b, r, l, c, g, m, cc, 0] from rfl, ← HE.out] at ho
        have hcv := conv_own ho
        clear ho hle hl9
        go_wp2
        go_ret
        exact ⟨rfl, HHR.out⟩
end Jn
end Go.Proofs.Ytmmnanmegdflgaa

set_option linter.unusedVariables false
namespace Go.Proofs.Ytmmnanmegdflgaa
open Go.RowKit
theorem flat_set {α : Type} {s : Nat} {f : α → List Value} (hf : ∀ x, (f x).length = s) : ∀ (L : List α) (k : Nat) (hk : k < L.length) (i : Nat) (u : Value) (x : α), i < s → f x = (f L[k]).set i u → (L.set k x).flatMap f = (L.flatMap f).set (k * s + i) u
  | [], k, hk, _, _, _, _, _ => by simp at hk
  | y :: L, 0, hk, i, u, x, hi, hx => by
    simp only [List.set_cons_zero, List.flatMap_cons, Nat.zero_mul, Nat.zero_add]
    rw [List.set_append, if_pos (by rw [hf]; exact hi)]
    congr 1
  | y :: L, k + 1, hk, i, u, x, hi, hx => by
    have hk' : k < L.length := by simpa using hk
    simp only [List.set_cons_succ, List.flatMap_cons]
    rw [flat_set hf L k hk' i u x hi (by simpa using hx), List.set_append, if_neg (by rw [hf, Nat.add_mul]; omega), hf]
    congr 2
    rw [Nat.add_mul]; omega
/-- The block of a row of the call's own that is not empty, and each of its cells. -/
theorem Own.slot {α : Type} {e : TypeId} {s : Nat} {f : α → List Value} (hf : ∀ x, (f x).length = s) {base : Nat} {w : World} {A : Option Addr} {n cap : Nat} {L : List α} (h : Own e s f base w (.slice A n cap) L) (hs : 0 < s) {k : Nat} (hk : k < L.length) :
    ∃ g, A = some ⟨g, 0, none⟩ ∧ base ≤ g ∧ g < w.heap.size ∧ ∀ i, i < s → w.frozen? ⟨g, k * s + i, none⟩ = false ∧ ∀ v, (f L[k])[i]? = some v → w.cell? ⟨g, k * s + i, none⟩ = some v := by
  have hfl : (L.flatMap f).length = L.length * s := flat_len hf L
  rcases h.2 with ⟨he, h0⟩ | ⟨g, cp, cur, he, q1, q2, q3, q4, q5, q6⟩
  · omega
  · injection he with e1 e2 e3
    subst e1
    refine ⟨g, rfl, q1, (Array.getElem?_eq_some_iff.1 q2).1, fun i hi => ⟨by simp [World.frozen?, q2], fun v hv => ?_⟩⟩
    have hfa := flat_at hf L k hk i hi
    rw [hv] at hfa
    have hlt : k * s + i < L.length * s := by
      have := (List.getElem?_eq_some_iff.1 hfa).1
      omega
    rw [← q6, List.getElem?_take, if_pos (by exact hlt)] at hfa
    simp only [World.cell?, q2]
    simpa using hfa
/-- A cell of such a row, stored. -/
theorem Own.put {α : Type} {e : TypeId} {s : Nat} {f : α → List Value} (hf : ∀ x, (f x).length = s) {base : Nat} {w : World} {g n cap : Nat} {L : List α} (h : Own e s f base w (.slice (some ⟨g, 0, none⟩) n cap) L) {k : Nat} (hk : k < L.length) {i : Nat} (hi : i < s) (u : Value) (x : α)
    (hx : f x = (f L[k]).set i u) : Own e s f base (w.setCell ⟨g, k * s + i, none⟩ u) (.slice (some ⟨g, 0, none⟩) n cap) (L.set k x) := by
  have hfl : (L.flatMap f).length = L.length * s := flat_len hf L
  refine ⟨by rw [List.length_set]; exact flat_len hf _ |>.trans (by rw [List.length_set]), .inr ?_⟩
  rcases h.2 with ⟨he, h0⟩ | ⟨g', cp, cur, he, q1, q2, q3, q4, q5, q6⟩
  · cases he
  · injection he with e1 e2 e3
    injection e1 with e1
    injection e1 with e1
    subst e1 e2 e3
    refine ⟨g, cap, cur.setIfInBounds (k * s + i) u, ?_, q1, ?_, ?_, q4, ?_, ?_⟩
    · rw [List.length_set]
    · simp only [World.setCell]
      rw [Array.getElem?_modify, if_pos rfl, q2]; rfl
    · rw [List.length_set]; exact q3
    · rw [Array.size_setIfInBounds]; exact q5
    · rw [flat_set hf L k hk i u x hi hx, ← q6, List.length_set, Array.toList_setIfInBounds, List.take_set]
/-- A row is not touched by a store elsewhere. -/
theorem Own.far {α : Type} {e : TypeId} {s : Nat} {f : α → List Value} {base : Nat} {w : World} {v : Value} {L : List α} (h : Own e s f base w v L) {c j : Nat} {u : Value} (hc : v.ownBlock ≠ some c) : Own e s f base (w.setCell ⟨c, j, none⟩ u) v L := by
  refine ⟨h.1, h.2.imp id ?_⟩
  rintro ⟨g, cp, cur, rfl, q1, q2, q3⟩
  refine ⟨g, cp, cur, rfl, q1, ?_, q3⟩
  simp only [World.setCell]
  rw [Array.getElem?_modify, if_neg (fun e => hc (by rw [e]; rfl))]
  exact q2
end Go.Proofs.Ytmmnanmegdflgaa

set_option linter.unusedVariables false
namespace Go.Proofs.Ytmmnanmegdflgaa
open Go.RowKit
/-- A piece of memory: its blocks, and what holds of them. -/
structure Ck where
  bs : List Nat
  P : World → Prop
  loc : ∀ {w w' : World}, (∀ b ∈ bs, w'.heap[b]? = w.heap[b]?) → P w → P w'
  lt : ∀ {w : World}, P w → ∀ b ∈ bs, b < w.heap.size
theorem lt_of_heap {w : World} {b : Nat} {o : Obj} (h : w.heap[b]? = some o) : b < w.heap.size := (Array.getElem?_eq_some_iff.1 h).1
/-- A box: a block known whole. -/
def Ck.box (b : Nat) (cs : Array Value) (t : TypeId) : Ck :=
  ⟨[b], fun w => w.heap[b]? = some (.cells cs t (0, 0)), fun h p => (h b (by simp)).trans p, fun p b' hb => by simp at hb; subst hb; exact lt_of_heap p⟩
theorem Own.loc {α : Type} {e : TypeId} {s : Nat} {f : α → List Value} {base : Nat} {w w' : World} {v : Value} {L : List α} (h : Own e s f base w v L) (hk : ∀ b ∈ v.ownBlock.toList, w'.heap[b]? = w.heap[b]?) : Own e s f base w' v L := by
  refine ⟨h.1, h.2.imp id ?_⟩
  rintro ⟨g, cp, cur, rfl, q1, q2, q3⟩
  exact ⟨g, cp, cur, rfl, q1, (hk g (by simp [Value.ownBlock])).trans q2, q3⟩
/-- A row of the call's own. -/
def Ck.row {α : Type} (e : TypeId) (s : Nat) (f : α → List Value) (base : Nat) (v : Value) (L : List α) : Ck :=
  ⟨v.ownBlock.toList, fun w => Own e s f base w v L, fun h p => Own.loc p h, fun p b hb => (World.ownsRow.lt p b (by simpa using hb)).2⟩
/-- A piece of any kind in one block. -/
def Ck.one (b : Nat) (Q : Obj → Prop) : Ck := ⟨[b], fun w => ∃ o, w.heap[b]? = some o ∧ Q o, fun h p => by obtain ⟨o, ho, hq⟩ := p; exact ⟨o, (h b (by simp)).trans ho, hq⟩, fun p b' hb => by obtain ⟨o, ho, _⟩ := p; simp at hb; subst hb; exact lt_of_heap ho⟩
/-- The cells of a block that was just made. -/
theorem cells_new (w : World) {b : Nat} (hb : w.heap.size = b) (cs : Array Value) (t : TypeId) : ∀ j u, cs.toList[j]? = some u → (w.alloc (.cells cs t)).cell? ((⟨b, 0, none⟩ : Addr).add j) = some u := by
  intro j u hu
  subst hb
  have hn := heap_alloc_new w (.cells cs t)
  rw [addr_add]
  simp only [World.cell?, hn, Nat.zero_add]
  simpa using hu
/-- The cells that make lays. -/
theorem made_flat {α : Type} {s : Nat} {f : α → List Value} (hf : ∀ x, (f x).length = s) (hs : 0 < s) (x0 : α) (z : Value) (hz : z.cells.toList = f x0) (n : Nat) : (madeCells z.cells (n * s)).toList = (List.replicate n x0).flatMap f := by
  have hzs : z.cells.size = s := by rw [← hf x0, ← hz]; simp
  refine List.ext_getElem? fun j => ?_
  by_cases hj : j < n * s
  · have hk : j / s < n := Nat.div_lt_of_lt_mul (by rw [Nat.mul_comm]; exact hj)
    have hr : j % s < s := Nat.mod_lt _ hs
    have e : (j / s) * s + j % s = j := by rw [Nat.mul_comm]; exact Nat.div_add_mod j s
    have h1 := flat_at hf (List.replicate n x0) (j / s) (by simpa using hk) (j % s) hr
    rw [e] at h1
    rw [h1, List.getElem_replicate, ← hz, madeCells]
    simp only [Array.toList_map, Array.toList_range, hzs, List.getElem?_map]
    rw [List.getElem?_range hj]
    simp [getElem!_pos, hzs, hr]
  · rw [List.getElem?_eq_none (by simp [size_madeCells]; omega), List.getElem?_eq_none (by rw [flat_len hf, List.length_replicate]; omega)]
/-- What the call has: the world in which it began is kept; the pieces, apart from each other. -/
structure Mem (W w : World) (H : List Ck) : Prop where
  held : Held W w
  ok : ∀ c ∈ H, c.P w ∧ ∀ b ∈ c.bs, W.heap.size ≤ b
  sep : H.Pairwise fun c d => ∀ b ∈ c.bs, b ∉ d.bs
namespace Mem
variable {W w w' : World} {H : List Ck}
theorem start (W : World) : Mem W W [] := ⟨Held.refl W, fun c h => by simp at h, List.Pairwise.nil⟩
theorem of (h : Held W w) : Mem W w [] := ⟨h, fun c h => by simp at h, List.Pairwise.nil⟩
theorem le (h : Mem W w H) : W.heap.size ≤ w.heap.size := h.held.le
theorem keep (h : Mem W w H) (k : Held w w') : Mem W w' H :=
  ⟨h.held.step k, fun c hc => ⟨c.loc (fun b hb => k.block b (c.lt (h.ok c hc).1 b hb)) (h.ok c hc).1, (h.ok c hc).2⟩, h.sep⟩
theorem get (h : Mem W w H) {i : Nat} {c : Ck} (hi : H[i]? = some c) : c.P w := (h.ok c (List.mem_of_getElem? hi)).1
theorem ge (h : Mem W w H) {i : Nat} {c : Ck} (hi : H[i]? = some c) : ∀ b ∈ c.bs, W.heap.size ≤ b := (h.ok c (List.mem_of_getElem? hi)).2
theorem apart (h : Mem W w H) {i j : Nat} {c d : Ck} (hi : H[i]? = some c) (hj : H[j]? = some d) (hij : i ≠ j) : ∀ b ∈ c.bs, b ∉ d.bs := by
  obtain ⟨li, rfl⟩ := List.getElem?_eq_some_iff.1 hi
  obtain ⟨lj, rfl⟩ := List.getElem?_eq_some_iff.1 hj
  rcases Nat.lt_or_ge i j with hl | hl
  · exact List.pairwise_iff_getElem.1 h.sep i j li lj hl
  · intro b hb hb'
    exact List.pairwise_iff_getElem.1 h.sep j i lj li (by omega) b hb' hb
/-- A new piece. -/
theorem new (h : Mem W w H) (k : Held w w') (c : Ck) (hp : c.P w') (hb : ∀ b ∈ c.bs, w.heap.size ≤ b) : Mem W w' (H ++ [c]) := by
  have hk := h.keep k
  refine ⟨hk.held, fun d hd => ?_, ?_⟩
  · rcases List.mem_append.1 hd with hd | hd
    · exact hk.ok d hd
    · rw [List.mem_singleton] at hd
      subst hd
      exact ⟨hp, fun b hb' => Nat.le_trans h.le (hb b hb')⟩
  · refine List.pairwise_append.2 ⟨h.sep, List.pairwise_singleton _ _, fun d hd d' hd' b hb1 hb2 => ?_⟩
    rw [List.mem_singleton] at hd'
    subst hd'
    have := d.lt (h.ok d hd).1 b hb1
    have := hb b hb2
    omega
/-- One piece has turned into another, in its own blocks or in new ones; nothing else has turned. -/
theorem upd (h : Mem W w H) {i : Nat} {c : Ck} (hi : H[i]? = some c) (c' : Ck) (h0 : Below 0 w w') (hk : ∀ b, b < w.heap.size → b ∉ c.bs → w'.heap[b]? = w.heap[b]?) (hp : c'.P w') (hb : ∀ b ∈ c'.bs, b ∈ c.bs ∨ w.heap.size ≤ b) : Mem W w' (H.set i c') := by
  obtain ⟨li, rfl⟩ := List.getElem?_eq_some_iff.1 hi
  have hge := h.ge hi
  refine ⟨h.held.trans ⟨h0.os, h0.tape, h0.output, h0.size, fun k hkk => hk k (Nat.lt_of_lt_of_le hkk h.le) (fun hm => by have := hge k hm; omega)⟩, fun d hd => ?_, ?_⟩
  · obtain ⟨j, hj, rfl⟩ := List.mem_iff_getElem.1 hd
    rw [List.getElem_set]
    have hj' : j < H.length := by simpa using hj
    by_cases hij : i = j
    · rw [if_pos hij]
      refine ⟨hp, fun b hb' => ?_⟩
      rcases hb b hb' with hm | hm
      · exact hge b hm
      · exact Nat.le_trans h.le hm
    · rw [if_neg hij]
      have hd' := h.ok H[j] (List.getElem_mem hj')
      refine ⟨H[j].loc (fun b hb' => hk b (H[j].lt hd'.1 b hb') (h.apart (i := j) (j := i) (List.getElem?_eq_getElem hj') hi (fun e => hij e.symm) b hb')) hd'.1, hd'.2⟩
  · rw [List.pairwise_iff_getElem]
    intro p q hp1 hq1 hpq b hb1 hb2
    rw [List.getElem_set] at hb1 hb2
    have hp2 : p < H.length := by simpa using hp1
    have hq2 : q < H.length := by simpa using hq1
    have hlt : ∀ (m : Nat) (hm : m < H.length), b ∈ H[m].bs → b < w.heap.size := fun m hm => H[m].lt (h.ok H[m] (List.getElem_mem hm)).1 b
    by_cases h1 : i = p
    · rw [if_pos h1] at hb1
      rw [if_neg (by omega)] at hb2
      rcases hb b hb1 with hm | hm
      · exact h.apart hi (List.getElem?_eq_getElem hq2) (by omega) b hm hb2
      · have := hlt q hq2 hb2; omega
    · rw [if_neg h1] at hb1
      by_cases h2 : i = q
      · rw [if_pos h2] at hb2
        rcases hb b hb2 with hm | hm
        · exact h.apart (List.getElem?_eq_getElem hp2) hi (by omega) b hb1 hm
        · have := hlt p hp2 hb1; omega
      · rw [if_neg h2] at hb2
        exact h.apart (List.getElem?_eq_getElem hp2) (List.getElem?_eq_getElem hq2) (by omega) b hb1 hb2
/-- A list of pieces that are all among these. -/
theorem sub (h : Mem W w H) {H' : List Ck} (hs : H'.Sublist H) : Mem W w H' := ⟨h.held, fun c hc => h.ok c (hs.subset hc), h.sep.sublist hs⟩
theorem take (h : Mem W w H) (n : Nat) : Mem W w (H.take n) := h.sub (List.take_sublist n H)
-- boxes
theorem alloc (h : Mem W w H) (cs : Array Value) (t : TypeId) : Mem W (w.alloc (.cells cs t)) (H ++ [.box w.heap.size cs t]) :=
  h.new ((Held.refl w).alloc _) _ (heap_alloc_new w _) (fun b hb => by simp [Ck.box] at hb; omega)
theorem alloc' (h : Mem W w H) {b : Nat} (hb : w.heap.size = b) (cs : Array Value) (t : TypeId) : Mem W (w.alloc (.cells cs t)) (H ++ [.box b cs t]) := hb ▸ h.alloc cs t
theorem skip (h : Mem W w H) (o : Obj) : Mem W (w.alloc o) H := h.keep ((Held.refl w).alloc o)
theorem drew (h : Mem W w H) : Mem W w.drew H := h.keep (Held.refl w).drew
theorem put (h : Mem W w H) (i : Nat) {b : Nat} {cs : Array Value} {t : TypeId} (hi : H[i]? = some (.box b cs t)) (j : Nat) (v : Value) : Mem W (w.setCell ⟨b, j, none⟩ v) (H.set i (.box b (cs.setIfInBounds j v) t)) := by
  refine h.upd hi _ ((Below.refl 0 w).setCell (Nat.zero_le _) v) (fun b' _ hb' => Below.heap_setCell w _ _ _ (by simpa [Ck.box] using hb')) ?_ (fun b' hb' => .inl hb')
  have := h.get hi
  simp only [Ck.box] at this ⊢
  simp only [World.setCell]
  rw [Array.getElem?_modify, if_pos rfl, this]; rfl
theorem blk (h : Mem W w H) (i : Nat) {b : Nat} {cs : Array Value} {t : TypeId} (hi : H[i]? = some (.box b cs t)) : w.heap[b]? = some (.cells cs t (0, 0)) := h.get hi
theorem cell (h : Mem W w H) (i : Nat) {b : Nat} {cs : Array Value} {t : TypeId} (hi : H[i]? = some (.box b cs t)) (j : Nat) {v : Value} (hv : cs[j]? = some v) : w.cell? ⟨b, j, none⟩ = some v := by
  have := h.blk i hi
  simp [World.cell?, this, hv]
theorem free (h : Mem W w H) (i : Nat) {b : Nat} {cs : Array Value} {t : TypeId} (hi : H[i]? = some (.box b cs t)) (j : Nat) : w.frozen? ⟨b, j, none⟩ = false := by
  have := h.blk i hi
  simp [World.frozen?, this]
theorem lt (h : Mem W w H) (i : Nat) {b : Nat} {cs : Array Value} {t : TypeId} (hi : H[i]? = some (.box b cs t)) : b < w.heap.size := lt_of_heap (h.blk i hi)
theorem geb (h : Mem W w H) (i : Nat) {b : Nat} {cs : Array Value} {t : TypeId} (hi : H[i]? = some (.box b cs t)) : W.heap.size ≤ b := h.ge hi b (by simp [Ck.box])
theorem ne (h : Mem W w H) (i j : Nat) {b b' : Nat} {cs cs' : Array Value} {t t' : TypeId} (hi : H[i]? = some (.box b cs t)) (hj : H[j]? = some (.box b' cs' t')) (hij : i ≠ j) : b ≠ b' := fun e => h.apart hi hj hij b (by simp [Ck.box]) (by simp [Ck.box, e])
section
variable {b : Nat} {t : TypeId} {x0 x1 x2 x3 x4 x5 x6 x7 : Value}
theorem box1 (h : Mem W w H) (i : Nat) (hi : H[i]? = some (.box b #[x0] t)) : w.cell? ⟨b, 0, none⟩ = some x0 ∧ w.frozen? ⟨b, 0, none⟩ = false ∧ b < w.heap.size := ⟨h.cell i hi 0 rfl, h.free i hi 0, h.lt i hi⟩
theorem box2 (h : Mem W w H) (i : Nat) (hi : H[i]? = some (.box b #[x0, x1] t)) : (w.cell? ⟨b, 0, none⟩ = some x0 ∧ w.cell? ⟨b, 1, none⟩ = some x1) ∧ (w.frozen? ⟨b, 0, none⟩ = false ∧ w.frozen? ⟨b, 1, none⟩ = false) ∧ b < w.heap.size := ⟨⟨h.cell i hi 0 rfl, h.cell i hi 1 rfl⟩, ⟨h.free i hi 0, h.free i hi 1⟩, h.lt i hi⟩
theorem box3 (h : Mem W w H) (i : Nat) (hi : H[i]? = some (.box b #[x0, x1, x2] t)) : (w.cell? ⟨b, 0, none⟩ = some x0 ∧ w.cell? ⟨b, 1, none⟩ = some x1 ∧ w.cell? ⟨b, 2, none⟩ = some x2) ∧ (w.frozen? ⟨b, 0, none⟩ = false ∧ w.frozen? ⟨b, 1, none⟩ = false ∧ w.frozen? ⟨b, 2, none⟩ = false) ∧ b < w.heap.size := ⟨⟨h.cell i hi 0 rfl, h.cell i hi 1 rfl, h.cell i hi 2 rfl⟩, ⟨h.free i hi 0, h.free i hi 1, h.free i hi 2⟩, h.lt i hi⟩
theorem box4 (h : Mem W w H) (i : Nat) (hi : H[i]? = some (.box b #[x0, x1, x2, x3] t)) : (w.cell? ⟨b, 0, none⟩ = some x0 ∧ w.cell? ⟨b, 1, none⟩ = some x1 ∧ w.cell? ⟨b, 2, none⟩ = some x2 ∧ w.cell? ⟨b, 3, none⟩ = some x3) ∧ (w.frozen? ⟨b, 0, none⟩ = false ∧ w.frozen? ⟨b, 1, none⟩ = false ∧ w.frozen? ⟨b, 2, none⟩ = false ∧ w.frozen? ⟨b, 3, none⟩ = false) ∧ b < w.heap.size := ⟨⟨h.cell i hi 0 rfl, h.cell i hi 1 rfl, h.cell i hi 2 rfl, h.cell i hi 3 rfl⟩, ⟨h.free i hi 0, h.free i hi 1, h.free i hi 2, h.free i hi 3⟩, h.lt i hi⟩
theorem box5 (h : Mem W w H) (i : Nat) (hi : H[i]? = some (.box b #[x0, x1, x2, x3, x4] t)) : (w.cell? ⟨b, 0, none⟩ = some x0 ∧ w.cell? ⟨b, 1, none⟩ = some x1 ∧ w.cell? ⟨b, 2, none⟩ = some x2 ∧ w.cell? ⟨b, 3, none⟩ = some x3 ∧ w.cell? ⟨b, 4, none⟩ = some x4) ∧ (w.frozen? ⟨b, 0, none⟩ = false ∧ w.frozen? ⟨b, 1, none⟩ = false ∧ w.frozen? ⟨b, 2, none⟩ = false ∧ w.frozen? ⟨b, 3, none⟩ = false ∧ w.frozen? ⟨b, 4, none⟩ = false) ∧ b < w.heap.size := ⟨⟨h.cell i hi 0 rfl, h.cell i hi 1 rfl, h.cell i hi 2 rfl, h.cell i hi 3 rfl, h.cell i hi 4 rfl⟩, ⟨h.free i hi 0, h.free i hi 1, h.free i hi 2, h.free i hi 3, h.free i hi 4⟩, h.lt i hi⟩
end
-- rows
section
variable {α : Type} {e : TypeId} {s : Nat} {f : α → List Value} {base : Nat}
theorem row (h : Mem W w H) (i : Nat) {v : Value} {L : List α} (hi : H[i]? = some (.row e s f base v L)) : Own e s f base w v L := h.get hi
/-- A row that a call has handed back. -/
theorem own (h : Mem W w H) (k : Held w w') {v : Value} {L : List α} (o : Own e s f w.heap.size w' v L) : Mem W w' (H ++ [.row e s f W.heap.size v L]) :=
  h.new k _ (Own.mono o h.le) (fun b hb => (World.ownsRow.lt o b (by simpa [Ck.row] using hb)).1)
theorem nilRow (h : Mem W w H) : Mem W w (H ++ [.row e s f W.heap.size (.slice none 0 0) []]) :=
  h.new (Held.refl w) _ (Own.nil w) (fun b hb => by simp [Ck.row, Value.ownBlock] at hb)
theorem neRow (h : Mem W w H) (i j : Nat) {b : Nat} {cs : Array Value} {t : TypeId} {v : Value} {L : List α} (hi : H[i]? = some (.box b cs t)) (hj : H[j]? = some (.row e s f base v L)) (hij : i ≠ j) : v.ownBlock ≠ some b := fun q => h.apart hi hj hij b (by simp [Ck.box]) (by simp [Ck.row, q])
theorem putRow (h : Mem W w H) (i : Nat) {g n cap : Nat} {L : List α} (hi : H[i]? = some (.row e s f base (.slice (some ⟨g, 0, none⟩) n cap) L)) (hf : ∀ x, (f x).length = s) {k : Nat} (hk : k < L.length) {j : Nat} (hj : j < s) (u : Value) (x : α) (hx : f x = (f L[k]).set j u) :
    Mem W (w.setCell ⟨g, k * s + j, none⟩ u) (H.set i (.row e s f base (.slice (some ⟨g, 0, none⟩) n cap) (L.set k x))) := by
  refine h.upd hi _ ((Below.refl 0 w).setCell (Nat.zero_le _) u) (fun b' _ hb' => Below.heap_setCell w _ _ _ (by simpa [Ck.row, Value.ownBlock] using hb')) ?_ (fun b' hb' => .inl hb')
  exact Own.put hf (h.row i hi) hk hj u x hx
/-- An element of a row: its value, its cells. -/
theorem slot (h : Mem W w H) (i : Nat) {A : Option Addr} {n cap : Nat} {L : List α} (hi : H[i]? = some (.row e s f base (.slice A n cap) L)) (hf : ∀ x, (f x).length = s) (hs : 0 < s) {k : Nat} (hk : k < L.length) :
    ∃ g x, A = some ⟨g, 0, none⟩ ∧ W.heap.size ≤ g ∧ g < w.heap.size ∧ L[k]? = some x ∧ ∀ j, j < s → w.frozen? ⟨g, k * s + j, none⟩ = false ∧ ∀ v, (f x)[j]? = some v → w.cell? ⟨g, k * s + j, none⟩ = some v := by
  obtain ⟨g, hA, _, h2, h3⟩ := Own.slot hf (h.row i hi) hs hk
  exact ⟨g, L[k], hA, h.ge hi g (by simp [Ck.row, Value.ownBlock, hA]), h2, List.getElem?_eq_getElem hk, h3⟩
theorem putAt (h : Mem W w H) (i : Nat) {g n cap : Nat} {L : List α} (hi : H[i]? = some (.row e s f base (.slice (some ⟨g, 0, none⟩) n cap) L)) (hf : ∀ x, (f x).length = s) {k : Nat} {y : α} (hk : L[k]? = some y) {j : Nat} (hj : j < s) (u : Value) (x : α) (hx : f x = (f y).set j u) :
    Mem W (w.setCell ⟨g, k * s + j, none⟩ u) (H.set i (.row e s f base (.slice (some ⟨g, 0, none⟩) n cap) (L.set k x))) := by
  obtain ⟨hlt, rfl⟩ := List.getElem?_eq_some_iff.1 hk
  exact h.putRow i hi hf hlt hj u x hx
/-- What an append leaves. -/
theorem app (h : Mem W w H) (i : Nat) {v v' : Value} {L L' : List α} (hi : H[i]? = some (.row e s f base v L)) (hg : w.grownBy w' v.ownBlock) (ho : Own e s f base w' v' L') (hb : ∀ b, v'.ownBlock = some b → v.ownBlock = some b ∨ w.heap.size ≤ b) : Mem W w' (H.set i (.row e s f base v' L')) := by
  refine h.upd hi _ ⟨hg.os, hg.tape, hg.output, hg.size, fun k hk => by omega⟩ (fun b hlt hb' => hg.block b hlt (fun q => hb' (by simp [Ck.row, ← q]))) ho (fun b hb' => ?_)
  simp only [Ck.row, Option.mem_toList] at hb' ⊢
  exact hb b hb'
/-- A slice that make lays. -/
theorem wp_make (h : Mem W w H) {P : Program} {ops : Array Oper} {rest : List Oper} {o : Oper} {a : Act} {Q : Exit → Act → World → Prop} (hgd : o.guard = none) (l c : Operand) (t : TypeId) (hop : o.op = Op.makeSlice t l c)
    (z : Value) (bytes : Nat) (ht : P.underlying t = some (.slice e)) (hinfo : (P.info? e).map (fun i => (i.zero, i.size, i.bytes)) = some (some z, s, bytes)) (x0 : α) (hs0 : 0 < s) (hf : ∀ x, (f x).length = s) (hz : z.cells.toList = f x0)
    (kl kc : IntKind) (LL C : Int) (n : Nat) (hl : a.eval l = .int kl LL) (hc : a.eval c = .int kc C) (hL : LL = (n : Int)) (hC : C = (n : Int)) (hb : bytes * n ≤ 281474976710656) (hm : n ≤ maxLen)
    (k : ∀ w', Mem W w' (H ++ [.row e s f W.heap.size (.slice (some ⟨w.heap.size, 0, none⟩) n n) (List.replicate n x0)]) → Held w w' → wpList P ops Q rest (a.put o.dst (.slice (some ⟨w.heap.size, 0, none⟩) n n)) w') :
    wpList P ops Q (o :: rest) a w := by
  obtain ⟨i0, hi, hz0, hz1, hz2⟩ := info_parts hinfo
  refine wpList_make_full w hgd l c t hop w.heap.size e i0 z s ht hi hz0 hz1 kl kc LL C n hl hc hL hC (by rw [hz2]; exact hb) hm (Nat.le_refl _) ?_
  intro w' h1 h2
  have hh : Held w w' := ⟨h2.os, h2.tape, h2.output, h2.size, fun k hk => h2.block k hk (by simp)⟩
  refine k w' (h.own hh ?_) hh
  unfold Own
  rw [List.length_replicate, ← made_flat hf hs0 x0 z hz n]
  exact h1
/-- An append of one element to a row of the call's own. -/
theorem wp_app (h : Mem W w H) (i : Nat) {v : Value} {L : List α} (hi : H[i]? = some (.row e s f W.heap.size v L)) {P : Program} {ops : Array Oper} {rest : List Oper} {o : Oper} {a : Act} {Q : Exit → Act → World → Prop} (hgd : o.guard = none) (sl x : Operand) (t : TypeId)
    (ho : o.op = .call { callee := .builtin .append, args := #[sl, x], argTypes := #[t, t] }) (z : Value) (bytes : Nat) (ht : P.underlying t = some (.slice e)) (hinfo : (P.info? e).map (fun i => (i.zero, i.size, i.bytes)) = some (some z, s, bytes))
    (hzs : z.cells.size = s) (hs0 : 0 < s) (hf : ∀ x, (f x).length = s) (hf1 : ∀ x, ∀ u ∈ f x, u.oneCell' = true) (d : α) (ad : Addr) (c : Nat)
    (hs : a.eval sl = v) (hx : a.eval x = .slice (some ad) 1 c) (hnews : ∀ j u, (f d)[j]? = some u → w.cell? (ad.add j) = some u)
    (n : Nat) (hn : L.length = n) (hb : (n + 1) * bytes ≤ 140737488355328) (hb1 : 1 ≤ bytes)
    (k : ∀ g cap w', Mem W w' (H.set i (.row e s f W.heap.size (.slice (some ⟨g, 0, none⟩) (n + 1) cap) (L ++ [d]))) → wpList P ops Q rest (a.put o.dst (.slice (some ⟨g, 0, none⟩) (n + 1) cap)) w') :
    wpList P ops Q (o :: rest) a w := by
  subst hn
  refine Own.app w hgd sl x t ho z bytes ht hinfo hzs hs0 hf hf1 W.heap.size v L d ad c hs (h.row i hi) hx hnews hb hb1 h.le ?_
  intro g cap w' h1 h2 h3 h4
  refine k g cap w' (h.app i hi h2 h1 (fun b hb' => ?_))
  simp only [Value.ownBlock] at hb'
  injection hb' with hb'
  subst hb'
  rcases h3 with h3 | h3
  · exact .inl h3
  · exact .inr (by omega)
end
end Mem
end Go.Proofs.Ytmmnanmegdflgaa

set_option linter.unusedVariables false
namespace Go.Proofs.Ytmmnanmegdflgaa
open Go.RowKit
namespace Mem
variable {W w w' : World} {H : List Ck}
/-- Some of the pieces, in another order. -/
theorem pick (h : Mem W w H) (is : List Nat) (hd : is.Nodup) {H' : List Ck} (hH : is.map (fun i => H[i]?) = H'.map some) : Mem W w H' := by
  have hlen : is.length = H'.length := by have := congrArg List.length hH; simpa using this
  have hat : ∀ p (h1 : p < is.length) (h2 : p < H'.length), H[is[p]]? = some H'[p] := fun p h1 h2 => by
    have := congrArg (fun l => l[p]?) hH
    simp only [List.getElem?_map, List.getElem?_eq_getElem h1, List.getElem?_eq_getElem h2, Option.map_some] at this
    injection this
  refine ⟨h.held, fun c hc => ?_, List.pairwise_iff_getElem.2 fun p q hp hq hpq => ?_⟩
  · obtain ⟨p, hp, rfl⟩ := List.mem_iff_getElem.1 hc
    have := hat p (by omega) hp
    exact ⟨h.get this, h.ge this⟩
  · refine h.apart (hat p (by omega) hp) (hat q (by omega) hq) fun e => ?_
    have := List.pairwise_iff_getElem.1 hd p q (by omega) (by omega) hpq
    exact this e
theorem sel (h : Mem W w H) (is : List Nat) (hd : is.Nodup) : Mem W w (is.filterMap fun i => H[i]?) := by
  have key : ∀ l : List Nat, l.Sublist is → ∀ H', l.filterMap (fun i => H[i]?) = H' → (∀ c ∈ H', ∃ i ∈ l, H[i]? = some c) ∧ (l.Nodup → H'.Pairwise fun c d => ∀ b ∈ c.bs, b ∉ d.bs) := by
    intro l
    induction l with
    | nil => rintro _ H' rfl; exact ⟨by simp, fun _ => by simp⟩
    | cons i l ih =>
      intro hs H' hH
      subst hH
      obtain ⟨h1, h2⟩ := ih (List.Sublist.trans (List.sublist_cons_self i l) hs) _ rfl
      cases hi : H[i]? with
      | none =>
        rw [List.filterMap_cons_none hi]
        exact ⟨fun c hc => by obtain ⟨j, hj, e⟩ := h1 c hc; exact ⟨j, List.mem_cons_of_mem _ hj, e⟩, fun hn => h2 (List.nodup_cons.1 hn).2⟩
      | some c =>
        rw [List.filterMap_cons_some hi]
        refine ⟨fun d hd' => ?_, fun hn => List.pairwise_cons.2 ⟨fun d hd' => ?_, h2 (List.nodup_cons.1 hn).2⟩⟩
        · rcases List.mem_cons.1 hd' with rfl | hd'
          · exact ⟨i, List.mem_cons_self, hi⟩
          · obtain ⟨j, hj, e⟩ := h1 d hd'; exact ⟨j, List.mem_cons_of_mem _ hj, e⟩
        · obtain ⟨j, hj, e⟩ := h1 d hd'
          exact h.apart hi e (fun q => (List.nodup_cons.1 hn).1 (q ▸ hj))
  obtain ⟨h1, h2⟩ := key is (List.Sublist.refl _) _ rfl
  exact ⟨h.held, fun c hc => by obtain ⟨i, _, e⟩ := h1 c hc; exact ⟨h.get e, h.ge e⟩, h2 hd⟩
end Mem
end Go.Proofs.Ytmmnanmegdflgaa
