/-
  Contracts: a group on a host (chapter 40), of the program.
-/
import Derived.Test.YtmmjofdienoobaaBaA
set_option linter.unusedVariables false
set_option linter.unusedSimpArgs false
set_option maxRecDepth 100000
namespace Go.Proofs.Ytmmjofdienoobaa
open Go.RowKit
namespace Ba
open Ad Adm
set_option maxHeartbeats 2000000 in
theorem grouped_any (A : Option Addr) (n cap : Nat) (A2 : Option Addr) (n2 cap2 : Nat) (L : List Dem) (on : List Int) (h g : Int) (w : World) (hl : Sl 4 demC w A n L) (ho : Sl 1 inC w A2 n2 on) (hn : n2 ≤ n) (hb : (n : Int) ≤ 1000000) :
    Calls Try.prog 51 #[.slice A n cap, .slice A2 n2 cap2, .int .i64 h, .int .i64 g] w fun e w' => e = .returned (.bool (grp (gu (L.zip on) h) g)) ∧ w = w' := by
  have HL := Lib.hid hl
  have HO := Lib.hid ho
  have HE : Hid ((L.zip on).take n2 = L.zip on) := show _ = _ from List.take_of_length_le (by rw [List.length_zip, ho.1]; omega)
  clear hl ho
  by_cases h0 : g = 0
  · have HP : Hid (grp (gu (L.zip on) h) g = false) := show _ = _ by unfold grp; simp [h0]
    have hb0 : (g == 0) = true := by simp [h0]
    clear h0
    go_enter Try.func51, Try.ntmps51
    go_wp2
    go_ret
    exact ⟨ret_b HP.out.symm, rfl⟩
  · have HP : Hid (grp (gu (L.zip on) h) g = clash (gu (L.zip on) h) g) := show _ = _ by unfold grp; simp [h0]
    have hb0 : (g == 0) = false := by simp [h0]
    clear h0
    go_enter Try.func51, Try.ntmps51
    go_wp2
    go_loopw [15] (fun i wr => ∃ k : Nat, i = .int .i64 k ∧ k ≤ n2 ∧ clash (gu ((L.zip on).take k) h) g = false ∧ wr = w) (fun i _ => n2 - (intOf i).toNat)
    case atStart => exact ⟨0, rfl, Nat.zero_le _, by simp [gu, clash], rfl⟩
    case round =>
      obtain ⟨k, rfl, hk, hc, rfl⟩ := hrel
      have HC := Lib.hid hc
      clear hc
      by_cases hlt : (k : Int) < n2
      · obtain ⟨b2, off2, x, rfl, lb2, hx, x0⟩ := Sl.at1 HO.out (Held.refl wr) (k := k) (by omega)
        obtain ⟨b, off, d, rfl, lb, hd, c0, c1, c2, c3⟩ := Sl.at4 HL.out (Held.refl wr) (k := k) (by omega)
        have HS := Lib.hid (gu_take L on k d x h hd hx)
        have k1 : (k : Int) < n := by omega
        have k2 : ¬ (k : Int) < 0 := by omega
        have HMem := Lib.hid (show ∀ j, clash (gu ((L.zip on).take j) h) g = true → clash (gu (L.zip on) h) g = true from fun j hj => by
          have : L.zip on = (L.zip on).take j ++ (L.zip on).drop j := (List.take_append_drop j _).symm
          rw [this, gu_app, clash_app, hj]; rfl)
        clear hd hx
        by_cases he : x = h
        · have hb1 : (x == h) = true := by simp [he]
          by_cases hg : d.g = g
          · have hb2 : (d.g == g) = true := by simp [hg]
            have HP2 : Hid (grp (gu (L.zip on) h) g = true) := show _ = _ by
              rw [HP.out]; refine HMem.out (k + 1) ?_
              rw [HS.out, clash_app]
              have : clash (one x h true d) g = true := by unfold one clash; simp [he, hg]
              rw [this, Bool.or_true]
            clear he hg
            go_wp2
            go_ret
            exact ⟨ret_b HP2.out.symm, rfl⟩
          · have hb2 : (d.g == g) = false := by simp [hg]
            have HN : Hid (clash (gu ((L.zip on).take (k + 1)) h) g = false) := show _ = _ by
              rw [HS.out, clash_app, HC.out]; unfold one clash; simp [he, hg]
            clear he hg
            go_wp2
            go_roundw
            case rel => exact ⟨k + 1, by go_num, by omega, HN.out, by trivial⟩
            case measure => (simp [intOf]) <;> omega
        · have hb1 : (x == h) = false := by simp [he]
          have HN : Hid (clash (gu ((L.zip on).take (k + 1)) h) g = false) := show _ = _ by
            rw [HS.out, clash_app, HC.out]; unfold one clash; simp [he]
          clear he
          go_wp2
          go_roundw
          case rel => exact ⟨k + 1, by go_num, by omega, HN.out, by trivial⟩
          case measure => (simp [intOf]) <;> omega
      · obtain rfl : k = n2 := by omega
        rw [HE.out] at HC
        go_wp2
        go_ret
        exact ⟨ret_b (HC.out.symm.trans HP.out.symm), rfl⟩
end Ba
end Go.Proofs.Ytmmjofdienoobaa
