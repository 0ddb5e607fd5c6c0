/-
  The laws on varints: the walks.
-/
import Derived.Test.YtpgllpoclokcmaaAwk1
import Derived.Deep.QuietTactic
import Derived.Deep.RegionWith
import Derived.Deep.RegionHeld3
import Derived.BigQuiet
namespace Go.Proofs.Ytpgllpoclokcmaa
open Go.RowKit
set_option linter.unusedVariables false
set_option maxRecDepth 100000
namespace LawC
open Rw
theorem varints (x : Int) (s : ByteArray) (wx : (Lit.int .u64 x).wf = true) (ws : s.size ≤ maxLen) (w : World) :
    Calls Try.prog 7 #[.int .u64 x, .string s] w fun e w' => e = .returned (.bool true) ∧ Below w.heap.size w w' := by
  have hs : s.size ≤ 9223372036854775807 := ws
  have hx := bd_u64 wx
  clear ws wx
  obtain ⟨n, rfl⟩ := Int.eq_ofNat_of_zero_le hx.1
  have hn := hx.2
  clear hx
  by_cases h1 : (100 : Int) < s.size
  · go_enter Try.func7, Try.ntmps7
    go_wp2_with (go_at_call 15; refine (Law1.awake_any _).mono ?_; rintro e w1 ⟨rfl, hb⟩)
    go_ret
    exact ⟨rfl, hb⟩
  · have hr := Uv.rd_put n (by omega) s.data.toList
    have hl := Uv.put_len n (by omega)
    obtain ⟨p, hp⟩ : ∃ p, Uv.put n = p := ⟨_, rfl⟩
    have HP := Lib.hid hp
    rw [hp] at hr hl
    clear hp
    have hsz : ((⟨p.toArray⟩ : ByteArray) ++ s).size ≤ 1000 := by
      rw [ByteArray.size_append]; show p.toArray.size + _ ≤ _; simp; omega
    have u1 : Uv.uvX (p ++ s.data.toList) = n := (Uv.uv_some hr).1
    have u2 : Uv.uvN (p ++ s.data.toList) = p.length := (Uv.uv_some hr).2.1
    have u3 : Uv.uvB (p ++ s.data.toList) = true := (Uv.uv_some hr).2.2
    have hp10 : ((⟨p.toArray⟩ : ByteArray).size : Int) ≤ 10 := by show ((p.toArray.size : Nat) : Int) ≤ _; simp; omega
    have hpl : (((p.length : Nat) : Int) == ((⟨p.toArray⟩ : ByteArray).size : Int)) = true := by rw [show (⟨p.toArray⟩ : ByteArray).size = p.toArray.size from rfl]; simp
    clear hr
    go_enter Try.func7, Try.ntmps7
    go_wp2_with (first | (go_at_call 20; refine (Strs.put_any _ (by omega) _).mono ?_; rintro e w1 ⟨rfl, hb1⟩; rw [HP.out]) | (go_at_call 22; refine (Strs.put_ref_any _ (by omega) _).mono ?_; rintro e w2 ⟨rfl, hb2⟩; rw [HP.out]) | (go_at_call 21; refine (Strs.uv_any _ (by omega) _).mono ?_; rintro e w' ⟨rfl, rfl⟩) | (go_at_call 15; refine (Law1.awake_any _).mono ?_; rintro e w3 ⟨rfl, hb3⟩))
    go_ret
    exact ⟨rfl, (hb1.trans (hb2.mono hb1.size)).trans (hb3.mono (Nat.le_trans hb1.size hb2.size))⟩
theorem take_str {s : ByteArray} {l : List UInt8} {n : Nat} (h : l = s.data.toList.take n) : (⟨l.toArray⟩ : ByteArray) = s.extract 0 n := by
  apply ByteArray.ext
  subst h
  apply Array.ext'
  simp
/-- What all worlds on the way of a region keep. -/
def Held (w w' : World) : Prop := Below w.heap.size w w'
theorem Held.refl (w : World) : Held w w := Below.refl _ _
theorem Held.drew {w a : World} (h : Held w a) : Held w a.drew := Below.drew h
theorem Held.step {w a b : World} (h : Held w a) (hb : Below a.heap.size a b) : Held w b := Below.trans h (hb.mono h.size)
theorem reads (s : ByteArray) (ws : s.size ≤ maxLen) (w : World) :
    Calls Try.prog 8 #[.string s] w fun e w' => e = .returned (.bool true) ∧ Below w.heap.size w w' := by
  have hs : s.size ≤ 9223372036854775807 := ws
  clear ws
  by_cases h1 : (100 : Int) < s.size
  · go_enter Try.func8, Try.ntmps8
    go_wp2_with (go_at_call 15; refine (Law1.awake_any _).mono ?_; rintro e w1 ⟨rfl, hb⟩)
    go_ret
    exact ⟨rfl, hb⟩
  · cases hr : Uv.rd 0 0 s.data.toList with
    | none =>
      have u1 := (Uv.uv_none hr).1
      have u2 := (Uv.uv_none hr).2.1
      have u3 := (Uv.uv_none hr).2.2
      clear hr
      go_enter Try.func8, Try.ntmps8
      go_wp2_with (first | (go_at_call 21; refine (Strs.uv_any _ (by omega) _).mono ?_; rintro e w' ⟨rfl, rfl⟩) | (go_at_call 23; refine (Strs.uv_ref_any _ (by omega) _).mono ?_; rintro e w' ⟨rfl, rfl⟩))
      go_quiet (first | (go_at_call 15; exact Calls.quiet_of (Law1.awake_quiet _)))
      go_wp2
      go_ret
      exact ⟨rfl, below_drewN (Below.refl _ _) _⟩
    | some q =>
      obtain ⟨v, n⟩ := q
      have u1 := (Uv.uv_some hr).1
      have u2 := (Uv.uv_some hr).2.1
      have u3 := (Uv.uv_some hr).2.2
      obtain ⟨hv, hn1, hn2, hp⟩ := Uv.put_rd hr
      have hv' : (v : Int) ≤ 18446744073709551615 := by omega
      have hn' : n ≤ s.size := by simpa using hn2
      have HP := Lib.hid (take_str hp)
      clear hr hp hv hn2
      go_enter Try.func8, Try.ntmps8
      go_wp2_with (first | (go_at_call 21; refine (Strs.uv_any _ (by omega) _).mono ?_; rintro e w' ⟨rfl, rfl⟩) | (go_at_call 23; refine (Strs.uv_ref_any _ (by omega) _).mono ?_; rintro e w' ⟨rfl, rfl⟩))
      go_region_held3 (fun w' => Held w w') (first | exact Held.refl _ | exact (Held.refl _).drew | exact Held.step (by assumption) (by assumption))
        (first | (go_at_call 20; refine (Strs.put_any _ (by omega) _).mono ?_; rintro e w1 ⟨rfl, hb1⟩; rw [HP.out]) | (go_at_call 15; refine (Law1.awake_any _).mono ?_; rintro e w3 ⟨rfl, hb3⟩))
      go_wp2
      go_ret
      exact ⟨rfl, ‹Held w _›⟩

/-! A sequence of numbers. -/
def enc (L : List Nat) : List UInt8 := L.flatMap Uv.put
theorem enc_snoc (L : List Nat) (k : Nat) (h : k < L.length) : enc (L.take (k + 1)) = enc (L.take k) ++ Uv.put L[k] := by
  unfold enc; rw [List.take_succ_eq_append_getElem h, List.flatMap_append, List.flatMap_singleton]
theorem enc_drop (L : List Nat) (k : Nat) (h : k < L.length) : enc (L.drop k) = Uv.put L[k] ++ enc (L.drop (k + 1)) := by
  unfold enc; rw [List.drop_eq_getElem_cons h, List.flatMap_cons]
theorem enc_all (L : List Nat) : enc (L.take L.length) = enc L := by rw [List.take_length]
theorem str_of (t : ByteArray) (l : List UInt8) (h : t.data.toList = l) : t = ⟨l.toArray⟩ := by
  subst h; apply ByteArray.ext; simp
theorem nats {k : IntKind} {w : World} {b off : Nat} {L : List Int} (hc : ∀ i (h : i < L.length), w.cell? ⟨b, off + i, none⟩ = some (.int k L[i])) (h0 : ∀ n ∈ L, 0 ≤ n ∧ n ≤ 18446744073709551615) :
    ∃ M : List Nat, M.length = L.length ∧ (∀ i (h : i < M.length), w.cell? ⟨b, off + i, none⟩ = some (.int k M[i])) ∧ ∀ i (h : i < M.length), M[i] < 18446744073709551616 := by
  refine ⟨L.map Int.toNat, by simp, fun i hi => ?_, fun i hi => ?_⟩
  · simp at hi
    rw [hc i hi]; simp; have := h0 _ (List.getElem_mem hi); omega
  · simp at hi ⊢
    have := h0 _ (List.getElem_mem hi); omega
theorem extract_drop (t : ByteArray) (q : Nat) : (t.extract q t.size).data.toList = t.data.toList.drop q := by
  rw [ByteArray.data_extract, Array.toList_extract, List.extract_eq_take_drop, List.take_of_length_le (by simp)]
theorem str_int {a b : ByteArray} (h : a = b) : Value.string a = .string b := by rw [h]
theorem seq_some (b off len cap : Nat) (M : List Nat) (w : World) (hlen : M.length = len) (hl : (len : Int) ≤ 60) (hbw : b < w.heap.size)
    (hc : ∀ i (h : i < M.length), w.cell? ⟨b, off + i, none⟩ = some (.int .u64 M[i])) (hb : ∀ i (h : i < M.length), M[i] < 18446744073709551616) :
    Calls Try.prog 9 #[.slice (some ⟨b, off, none⟩) len cap] w fun e w' => e = .returned (.bool true) ∧ Below w.heap.size w w' := by
  have HC := Lib.hid hc
  have HLen := Lib.hid hlen
  have HA : Hid (enc (M.take len) = enc M) := show _ = _ by rw [← hlen]; exact enc_all M
  clear hc hlen
  go_enter Try.func9, Try.ntmps9
  go_wp2
  go_loopw [3, 4] (fun v i wr => ∃ (k : Nat) (t : ByteArray), k ≤ len ∧ i = .int .i64 k ∧ v = .string t ∧ t.data.toList = enc (M.take k) ∧ t.size ≤ 10 * k ∧ Below w.heap.size w wr) (fun _ i _ => len - (intOf i).toNat)
  case atStart => exact ⟨0, ⟨#[]⟩, Nat.zero_le _, rfl, rfl, rfl, by decide, Below.refl _ _⟩
  case round =>
    obtain ⟨k, t, hk, rfl, rfl, ht, hts, hbel⟩ := hrel
    have HT := Lib.hid ht
    have HB := Lib.hid hbel
    clear ht hbel
    by_cases hlt : k < len
    · have hkM : k < M.length := by have := HLen.out; omega
      obtain ⟨m, hm⟩ : ∃ m, M[k] = m := ⟨_, rfl⟩
      have hcell : wr.cell? ⟨b, off + k, none⟩ = some (.int .u64 m) := by rw [HB.out.cell hbw, HC.out k hkM, hm]
      have hm64 : (m : Int) ≤ 18446744073709551615 := by have := hb k hkM; omega
      have hpl := Uv.put_len m (by omega)
      have hps : (⟨(Uv.put m).toArray⟩ : ByteArray).size ≤ 10 := by show (Uv.put m).toArray.size ≤ 10; simpa using hpl
      have HS : Hid (enc (M.take (k + 1)) = enc (M.take k) ++ Uv.put m) := show _ = _ by rw [enc_snoc M k hkM, hm]
      clear hm hkM
      go_wp2_with (go_at_call 20; refine (Strs.put_any _ (by omega) _).mono ?_; rintro e w1 ⟨rfl, hb1⟩)
      go_roundw
      case rel =>
        refine ⟨k + 1, t ++ ⟨(Uv.put m).toArray⟩, by omega, by go_num, rfl, ?_, ?_, trans' HB.out HB.out.size hb1⟩
        · rw [HS.out]; simp [HT.out]
        · rw [ByteArray.size_append]; omega
      case measure => simp [intOf]; omega
    · obtain rfl : k = len := by omega
      have ht : t = ⟨(enc M).toArray⟩ := str_of t _ (by rw [HT.out, HA.out])
      go_wp2
      go_loop [3, 5] (fun v i => ∃ (j : Nat) (t : ByteArray), j ≤ k ∧ i = .int .i64 j ∧ v = .string t ∧ t.data.toList = enc (M.drop j) ∧ t.size ≤ 10 * k) (fun _ i => k - (intOf i).toNat)
      case atStart => exact ⟨0, t, Nat.zero_le _, rfl, rfl, by rw [HT.out, HA.out]; rfl, hts⟩
      case round =>
        obtain ⟨j, t2, hj, rfl, rfl, ht2, hts2⟩ := hrel
        have HT2 := Lib.hid ht2
        clear ht2 ht
        by_cases hlt2 : j < k
        · have hkM : j < M.length := by have := HLen.out; omega
          obtain ⟨m, hm⟩ : ∃ m, M[j] = m := ⟨_, rfl⟩
          have hcell : wr.cell? ⟨b, off + j, none⟩ = some (.int .u64 m) := by rw [HB.out.cell hbw, HC.out j hkM, hm]
          have hm64 : m < 18446744073709551616 := by rw [← hm]; exact hb j hkM
          have hr : Uv.rd 0 0 t2.data.toList = some (m, (Uv.put m).length) := by rw [HT2.out, enc_drop M j hkM, hm]; exact Uv.rd_put m hm64 _
          have hpl := Uv.put_len m hm64
          have hpp := Uv.put_pos m
          have u1 := (Uv.uv_some hr).1
          have u2 := (Uv.uv_some hr).2.1
          have u3 := (Uv.uv_some hr).2.2
          have hle := (Uv.put_rd hr).2.2.1
          have HD : Hid (enc (M.drop j) = Uv.put m ++ enc (M.drop (j + 1))) := show _ = _ by rw [enc_drop M j hkM, hm]
          obtain ⟨q, hq⟩ : ∃ q, (Uv.put m).length = q := ⟨_, rfl⟩
          rw [hq] at hpl hpp hle u2
          have HQ := Lib.hid hq
          have hq2 : q ≤ t2.size := by simpa using hle
          clear hm hkM hr hq hle hm64
          go_wp2_with (go_at_call 21; refine (Strs.uv_any _ (by omega) _).mono ?_; rintro e w' ⟨rfl, rfl⟩)
          go_round
          case rel =>
            refine ⟨j + 1, t2.extract q t2.size, by omega, by go_num, rfl, ?_, ?_⟩
            · rw [extract_drop, HT2.out, HD.out, ← HQ.out, List.drop_left]
            · rw [ByteArray.size_extract]; omega
          case measure => simp [intOf]; omega
        · obtain rfl : j = k := by omega
          have hz : t2 = ⟨#[]⟩ := by
            rw [List.drop_of_length_le (by have := HLen.out; omega)] at HT2
            exact str_of t2 [] HT2.out
          subst hz
          go_wp2_with (go_at_call 15; refine (Law1.awake_any _).mono ?_; rintro e w3 ⟨rfl, hb3⟩)
          go_ret
          exact ⟨rfl, trans' HB.out HB.out.size hb3⟩
theorem seq_none (a : Option Addr) (cap : Nat) (w : World) :
    Calls Try.prog 9 #[.slice a 0 cap] w fun e w' => e = .returned (.bool true) ∧ Below w.heap.size w w' := by
  go_enter Try.func9, Try.ntmps9
  go_wp2
  refine wp_loop_rounds 1 ?_
  rw [rounds_succ]
  go_wp2
  refine wp_loop_rounds 1 ?_
  rw [rounds_succ]
  go_wp2_with (go_at_call 15; refine (Law1.awake_any _).mono ?_; rintro e w3 ⟨rfl, hb3⟩)
  go_ret
  exact ⟨rfl, hb3⟩
theorem seq_long (a : Option Addr) (len cap : Nat) (h : (60 : Int) < len) (w : World) :
    Calls Try.prog 9 #[.slice a len cap] w fun e w' => e = .returned (.bool true) ∧ Below w.heap.size w w' := by
  go_enter Try.func9, Try.ntmps9
  go_wp2_with (go_at_call 15; refine (Law1.awake_any _).mono ?_; rintro e w3 ⟨rfl, hb3⟩)
  go_ret
  exact ⟨rfl, hb3⟩
theorem sequences (a : Option Addr) (len cap : Nat) (zs : List Int) (w : World) (hr : IsRow .u64 w a len cap zs) :
    Calls Try.prog 9 #[.slice a len cap] w fun e w' => e = .returned (.bool true) ∧ Below w.heap.size w w' := by
  obtain ⟨L, hL, hm, hwf, h⟩ := hr.view
  by_cases hl : (60 : Int) < len
  · exact seq_long a len cap hl w
  · rcases h with rfl | ⟨b, off, rfl, hb, hc⟩
    · exact seq_none a cap w
    · obtain ⟨M, hM, hMc, hMb⟩ := nats hc (fun n hn => bd_u64 (hwf n hn))
      exact seq_some b off len cap M w (by omega) (by omega) hb hMc hMb
end LawC
end Go.Proofs.Ytpgllpoclokcmaa
