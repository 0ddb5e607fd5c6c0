/-
  Two strings that differ in one byte have different hashes: the walk.
-/
import Derived.Test.YtpgllpoclokcmaaAwk1
import Derived.Deep.QuietTactic
import Derived.BigQuiet
namespace Go.Proofs.Ytpgllpoclokcmaa
open Go.RowKit
set_option linter.unusedVariables false
set_option maxRecDepth 100000
namespace LawB
open Rw
theorem distinct (s : ByteArray) (k b : Int) (ws : s.size ≤ maxLen) (wk : (Lit.int .i64 k).wf = true) (wb : (Lit.int .u8 b).wf = true) (w : World) :
    Calls Try.prog 6 #[.string s, .int .i64 k, .int .u8 b] w fun e w' => e = .returned (.bool true) ∧ Below w.heap.size w w' := by
  have hs : s.size ≤ 9223372036854775807 := ws
  have hk := bd_i64 wk
  have hb := bd_u8 wb
  clear ws wk wb
  obtain ⟨c, rfl⟩ : ∃ c : UInt8, b = c.toNat := ⟨UInt8.ofNat b.toNat, by rw [Uv.ofNat_toNat (by omega)]; omega⟩
  by_cases h1 : (s.size : Int) < 1
  · go_enter Try.func6, Try.ntmps6
    go_wp2_with (go_at_call 15; refine (Law1.awake_any _).mono ?_; rintro e w1 ⟨rfl, hb⟩)
    go_ret
    exact ⟨rfl, hb⟩
  by_cases h2 : (200 : Int) < s.size
  · go_enter Try.func6, Try.ntmps6
    go_wp2_with (go_at_call 15; refine (Law1.awake_any _).mono ?_; rintro e w1 ⟨rfl, hb⟩)
    go_ret
    exact ⟨rfl, hb⟩
  by_cases h3 : k < 0
  · go_enter Try.func6, Try.ntmps6
    go_wp2_with (go_at_call 15; refine (Law1.awake_any _).mono ?_; rintro e w1 ⟨rfl, hb⟩)
    go_ret
    exact ⟨rfl, hb⟩
  by_cases h4 : (s.size : Int) ≤ k
  · go_enter Try.func6, Try.ntmps6
    go_wp2_with (go_at_call 15; refine (Law1.awake_any _).mono ?_; rintro e w1 ⟨rfl, hb⟩)
    go_ret
    exact ⟨rfl, hb⟩
  obtain ⟨j, rfl⟩ := Int.eq_ofNat_of_zero_le (a := k) (by omega)
  have hj : j < s.size := by omega
  obtain ⟨n, hn⟩ : ∃ n, s[j].toNat = n := ⟨_, rfl⟩
  by_cases h5 : (n : Int) = c.toNat
  · have h5' : ((n : Int) == (c.toNat : Int)) = true := by simp [h5]
    clear h5
    go_enter Try.func6, Try.ntmps6
    go_wp2_with (go_at_call 15; refine (Law1.awake_any _).mono ?_; rintro e w1 ⟨rfl, hb⟩)
    go_ret
    exact ⟨rfl, hb⟩
  · have h5' : ((n : Int) == (c.toNat : Int)) = false := by simp [h5]
    obtain ⟨C, cap, hC, hCat, hconv⟩ := Strs.bytes_of s w
    have hf : (w.alloc (.cells C 5 (C.size, C.size + 1))).frozen? ⟨w.heap.size, j, none⟩ = false := by
      rw [World.frozen?_alloc_mark]; simp; omega
    have hcell : (w.alloc (.cells C 5 (C.size, C.size + 1))).cell? ⟨w.heap.size, j, none⟩ = some (.int .u8 n) := by
      rw [World.cell?_alloc_mark, hCat j hj, hn]
    have hset : ∀ i (hi : i < (s.data.toList.set j c).length), ((w.alloc (.cells C 5 (C.size, C.size + 1))).setCell ⟨w.heap.size, j, none⟩ (.int .u8 c.toNat)).cell? ((⟨w.heap.size, 0, none⟩ : Addr).add i) = some (.int .u8 (s.data.toList.set j c)[i].toNat) := by
      intro i hi
      rw [Strs.addr_add]
      by_cases hij : i = j
      · subst hij
        rw [World.cell?_setCell_same (h := hcell)]; simp
      · rw [World.cell?_setCell_other (h := fun e => hij (congrArg Addr.off e).symm), World.cell?_alloc_mark, hCat i (by simpa using hi)]
        rw [List.getElem_set_ne (by omega)]; rfl
    have hlen : (s.data.toList.set j c).length = s.size := by simp
    obtain ⟨W2, hW2⟩ : ∃ W2, ((w.alloc (.cells C 5 (C.size, C.size + 1))).setCell ⟨w.heap.size, j, none⟩ (.int .u8 c.toNat)).drew = W2 := ⟨_, rfl⟩
    have hback : ∀ nq, (convert 34 9 (.slice (some ⟨w.heap.size, 0, none⟩) s.size cap)).run Try.prog (W2.drewN nq) = .ok (.string ⟨(s.data.toList.set j c).toArray⟩) (W2.drewN nq) := by
      intro nq
      have := Strs.bytes_back (((w.alloc (.cells C 5 (C.size, C.size + 1))).setCell ⟨w.heap.size, j, none⟩ (.int .u8 c.toNat)).drew.drewN nq) ⟨w.heap.size, 0, none⟩ cap _ hset
      rw [hlen, hW2] at this; exact this
    have hdiff : (((Hs.hash 0 s.data.toList : Nat) : Int) != ((Hs.hash 0 (s.data.toList.set j c) : Nat) : Int)) = true := by
      rw [bne_iff_ne]
      have h1 : s.data.toList[j]'(by simpa using hj) ≠ c := by
        intro e
        have : s[j] = c := e
        rw [this] at hn; omega
      have := Hs.hash_set s.data.toList j (by simpa using hj) c (h := 0) (by omega) h1
      omega
    have hsz2 : (⟨(s.data.toList.set j c).toArray⟩ : ByteArray).size ≤ 9223372036854775807 := by
      show (s.data.toList.set j c).toArray.size ≤ _
      simp; omega
    have hba : Below w.heap.size w W2 := hW2 ▸ (((Below.refl _ _).alloc (Nat.le_refl _) _).setCell (by simp) _).drew
    have HBA := Lib.hid hba
    have HS := Lib.hid hset
    have HL := Lib.hid hlen
    have HC := Lib.hid hCat
    clear hCat hset hlen hba
    go_enter Try.func6, Try.ntmps6
    go_wp2_with fail
    clear hW2
    go_quiet (first | (go_at_call 18; exact Calls.quiet_of_same (Strs.hash_int _ _ (by omega) (by omega) (by omega) _)) | (go_at_call 19; exact Calls.quiet_of_same (Strs.hash_ref_int _ _ (by omega) (by omega) (by omega) _)) | (go_at_call 15; exact Calls.quiet_of (Law1.awake_quiet _)))
    go_wp2
    go_ret
    exact ⟨rfl, below_drewN HBA.out _⟩
end LawB
end Go.Proofs.Ytpgllpoclokcmaa
