/-
  Contracts: what Encode of eventlog calls, and Encode.
-/
import Derived.Test.YtdacgdokbfcgdaaEncP
import Derived.Test.YtdacgdokbfcgdaaBld
import Derived.Test.YtdacgdokbfcgdaaLgD
import Derived.Test.YtdacgdokbfcgdaaSl
import Derived.Lib.QuietBelow
import Derived.BigQuiet
import Derived.Outline
import Derived.Deep.RegionHeld3
set_option linter.unusedVariables false
set_option linter.unusedSimpArgs false
set_option maxRecDepth 100000
namespace Go.Proofs.Ytdacgdokbfcgdaa
open Go.RowKit Go.BigFrame Go.Sort
namespace Enc
open Lgc Lg Strs
theorem encE1 (n : Nat) (d : List UInt8) (k : Nat) (h : k = 1 ∨ k = 3 ∨ k = 6) : encE k n d = Uv.put k ++ Uv.put n := by
  unfold encE; rw [if_pos (by omega)]; rfl
theorem encE4 (n : Nat) (d : List UInt8) : encE (4 : Nat) n d = Uv.put 4 ++ Uv.put n ++ (Uv.put d.length ++ d) := rfl
theorem encE5 (n : Nat) (d : List UInt8) : encE (5 : Nat) n d = Uv.put 5 ++ (Uv.put d.length ++ d) := rfl
theorem encE2 (n : Nat) (d : List UInt8) : encE (2 : Nat) n d = Uv.put 2 := rfl
set_option maxHeartbeats 2000000 in
theorem encodeEvent_any (k n : Nat) (d : ByteArray) (h1 : 1 ≤ k) (h6 : k ≤ 6) (hn : (n : Int) ≤ 4294967295) (hd : d.size ≤ 128) (w : World) :
    Calls Try.prog 30 #[.agg #[.int .i64 k, .int .u32 n, .string d]] w (MakesS (encE k n d.data.toList) w) := by
  have hp1 := Uv.put_len k (by omega)
  have hp2 := Uv.put_len n (by omega)
  have hp3 := Uv.put_len d.size (by omega)
  have H1 := Lib.hid (fun w => put_any k (by omega) w)
  have H2 := Lib.hid (fun w => put_any n (by omega) w)
  have H3 := Lib.hid (fun w => put_any d.size (by omega) w)
  have hlen := len_eq d
  have E1 : Hid (k = 1 ∨ k = 3 ∨ k = 6 → encE k n d.data.toList = Uv.put k ++ Uv.put n) := fun h => encE1 n _ k h
  have E4 : Hid (k = 4 → encE k n d.data.toList = Uv.put k ++ Uv.put n ++ (Uv.put d.size ++ d.data.toList)) := fun h => by subst h; rw [← hlen]; exact encE4 n _
  have E5 : Hid (k = 5 → encE k n d.data.toList = Uv.put k ++ (Uv.put d.size ++ d.data.toList)) := fun h => by subst h; rw [← hlen]; exact encE5 n _
  have E2 : Hid (k = 2 → encE k n d.data.toList = Uv.put k) := fun h => by subst h; exact encE2 n _
  generalize Uv.put k = a at hp1 H1 E1 E2 E4 E5
  generalize Uv.put n = b at hp2 H2 E1 E4
  generalize Uv.put d.size = c at hp3 H3 E4 E5
  generalize encE k n d.data.toList = r at E1 E2 E4 E5
  clear hlen
  have HB := Lib.hid (fun w' (h : Held (w.alloc (.cells #[.int .i64 k, .int .u32 n, .string d] 24)) w') => And.intro (h.cell (p := ⟨w.heap.size, 0, none⟩) (v := .int .i64 k) (by simp)) (And.intro (h.cell (p := ⟨w.heap.size, 1, none⟩) (v := .int .u32 n) (by simp)) (h.cell (p := ⟨w.heap.size, 2, none⟩) (v := .string d) (by simp))))
  go_enter Try.func30, Try.ntmps30
  go_wp2_with fail
  refine (H1.out _).mono ?_
  rintro e w1 ⟨rfl, q1⟩
  have W1 := Lib.hid q1
  obtain ⟨c0, c1, c2⟩ := HB.out _ q1
  clear q1
  go_wp2_with fail
  refine (H2.out _).mono ?_
  rintro e w2 ⟨rfl, q2⟩
  have W2 := Lib.hid (Held.step W1.out q2)
  obtain ⟨d0, d1, d2⟩ := HB.out _ W2.out
  clear q2 c0 c1 c2 W1
  go_wp2
  have k2 := cell_regrown d2
  have cA := Lib.hid fun d os => Calls.regrown_of (d := d) (os := os) (H3.out (grow (redrawn w2 d) os))
  refine wp_region_quiet_below (by kernel_rfl) (by kernel_rfl) ?_
  repeat (go_big_quiet_step (first | (go_at_call 18; exact cA.out _ _)))
  refine wpQuiet_nil ?_
  intro _ hw'
  obtain ⟨⟨dq, osq⟩, hw''⟩ := hw'
  subst hw''
  have W3 := Lib.hid (W2.out.step (below_regrown w2 dq osq))
  obtain ⟨e0, e1, e2⟩ := HB.out _ W3.out
  clear d0 d1 d2 k2 cA W2 H1 H2 H3
  obtain ⟨w3, hw3⟩ : ∃ x, x = grow (redrawn w2 dq) osq := ⟨_, rfl⟩
  rw [← hw3] at W3 e0 e1 e2 ⊢
  clear hw3
  have fin : Hid (∀ s : ByteArray, s.data.toList = r → MakesS r w (.returned (.string s)) w3) := fun s hs => ⟨ret_str hs, ((Held.refl w).alloc _).step W3.out⟩
  have hk : k = 1 ∨ k = 2 ∨ k = 3 ∨ k = 4 ∨ k = 5 ∨ k = 6 := by omega
  rcases hk with rfl | rfl | rfl | rfl | rfl | rfl
  · have he := E1.out (by omega)
    clear E1 E2 E4 E5
    go_wp2
    go_ret
    exact fin.out _ (by rw [he]; simp)
  · have he := E2.out rfl
    clear E1 E2 E4 E5
    go_wp2
    go_ret
    exact fin.out _ (by rw [he])
  · have he := E1.out (by omega)
    clear E1 E2 E4 E5
    go_wp2
    go_ret
    exact fin.out _ (by rw [he]; simp)
  · have he := E4.out rfl
    clear E1 E2 E4 E5
    go_wp2
    go_ret
    exact fin.out _ (by rw [he]; simp)
  · have he := E5.out rfl
    clear E1 E2 E4 E5
    go_wp2
    go_ret
    exact fin.out _ (by rw [he]; simp)
  · have he := E1.out (by omega)
    clear E1 E2 E4 E5
    go_wp2
    go_ret
    exact fin.out _ (by rw [he]; simp)
end Enc
end Go.Proofs.Ytdacgdokbfcgdaa
