/-
  Contracts: pages of the law package of chapter 36: contents of 128 bytes each.
-/
import Derived.Test.YtgfbfmgdlbdlhaaPgK
import Derived.Test.YtgfbfmgdlbdlhaaLawPg
import Derived.Test.YtgfbfmgdlbdlhaaOpen36
import Derived.Test.YtgfbfmgdlbdlhaaRw
import Derived.Test.YtgfbfmgdlbdlhaaMem2
set_option linter.unusedVariables false
set_option linter.unusedSimpArgs false
set_option maxRecDepth 100000
namespace Go.Proofs.Ytgfbfmgdlbdlhaa
open Go.RowKit Go.BigFrame Go.Sort
namespace Pg
def nuC (i : Int) : List Value := [.int .i64 i]
theorem nuC_len (x : Int) : (nuC x).length = 1 := rfl
theorem nuC_one (x : Int) : ∀ u ∈ nuC x, u.oneCell' = true := by
  intro u hu
  simp only [nuC, List.mem_singleton] at hu
  subst hu; rfl
theorem str_info : (Try.prog.info? 9).map (fun i => (i.zero, i.size, i.bytes)) = some (some (.string ⟨#[]⟩), 1, 16) := by kernel_rfl
def i64ok (x : Int) : Prop := -9223372036854775808 ≤ x ∧ x ≤ 9223372036854775807
/-- Contents of the call's own, of 128 bytes each. -/
def MadeL (n : Nat) (w : World) (e : Ending) (w' : World) : Prop := ∃ A cap Ls, e = .returned (.slice A n cap) ∧ Ls.length = n ∧ (∀ s ∈ Ls, s.size = 128) ∧ Own 9 1 stC w.heap.size w' (.slice A n cap) Ls ∧ Held w w'
set_option maxHeartbeats 8000000 in
theorem pages_any (A : Option Addr) (n cap : Nat) (L : List Int) (w : World) (h : Sl 1 nuC w A n L) (hn : (n : Int) ≤ 1000) (hb : ∀ x ∈ L, i64ok x) :
    Calls Try.prog 18 #[.slice A n cap] w (MadeL n w) := by
  have HS := Lib.hid h
  have HB := Lib.hid hb
  clear h hb
  go_enter Try.func18, Try.ntmps18
  go_wp2
  go_loopw [3, 4, 5] (fun o i s wr => ∃ (k : Nat) (A : Option Addr) (cap : Nat) (Ls : List ByteArray), i = .int .i64 k ∧ k ≤ n ∧ Ls.length = k ∧ (∀ s ∈ Ls, s.size = 128) ∧ o = .slice A k cap ∧ Mem w wr [.row 9 1 stC w.heap.size (.slice A k cap) Ls]) (fun _ i _ _ => n - (intOf i).toNat)
  case atStart => exact ⟨0, none, 0, [], rfl, Nat.zero_le _, rfl, by simp, rfl, (Mem.start w).nilRow⟩
  case round =>
    obtain ⟨k, A1, cap1, Ls, rfl, hk, hl, hall, rfl, M⟩ := hrel
    have M1 := Lib.hid M
    have HL := Lib.hid hl
    have HA := Lib.hid hall
    clear M hl hall
    by_cases hlt : (k : Int) < n
    · obtain ⟨b, off, x, rfl, hbw, hx, hc⟩ := HS.out.at_ M1.out.held (k := k) (by omega)
      have c0 := hc 0 _ rfl
      rw [Nat.add_zero, Nat.mul_one] at c0
      have hcell : Hid (∀ w', Held wr w' → w'.cell? ⟨b, off + k, none⟩ = some (.int .i64 x)) := fun w' q => q.cell c0
      have hxb := HB.out x (List.mem_of_getElem? hx)
      have HP := Lib.hid (fun w' => Plan.page_any x w' hxb)
      have HD := Lib.hid (fun w' => Plan.disperse_any x w')
      have HR := Lib.hid (fun w' => Mk.round_any x 5 hxb.1 hxb.2 (by decide) (by decide) w')
      obtain ⟨r, hr⟩ : ∃ r, Mk.round x 5 = r := ⟨_, rfl⟩
      rw [hr] at HR
      clear hc hx hxb hr
      go_wp2_with fail
      refine (HP.out _).mono ?_
      rintro e w1 ⟨d, hd, _, rfl, h1⟩
      have HD1 := Lib.hid hd
      have M2 := Lib.hid (M1.out.keep h1)
      have c1 := hcell.out _ h1
      have hcell1 : Hid (∀ w', Held w1 w' → w'.cell? ⟨b, off + k, none⟩ = some (.int .i64 x)) := fun w' q => q.cell c1
      clear hd h1 c0
      by_cases h3 : r = 3
      · have h3b : (r == 3) = true := by simp [h3]
        clear h3
        go_wp2_with fail
        refine (HR.out _).mono ?_
        rintro e w2 ⟨rfl, rfl⟩
        go_wp2_with fail
        refine (HD.out _).mono ?_
        rintro e w3 ⟨d3, hd3, rfl, h3⟩
        have HD3 := Lib.hid hd3
        have M3 := Lib.hid (M2.out.keep h3)
        clear hd3 h3
        go_wp2_with (at_builtin; refine Mem.wp_app (M3.out.skip _) 0 rfl rfl _ _ _ rfl _ 16 Try.underlying35 str_info rfl (by decide) stC_len stC_one d3 ⟨w3.heap.size, 0, none⟩ 1 rfl rfl (cells_new _ rfl _ _) k HL.out (by omega) (by decide) ?_; intro g4 cp4 w4 M4; have M5 := Lib.hid M4; clear M4)
        go_roundw
        case rel => exact ⟨k + 1, _, _, _, by go_num, by omega, by rw [List.length_append, HL.out]; rfl, by intro s hs; rcases List.mem_append.1 hs with hs | hs; exact HA.out s hs; rw [List.mem_singleton.1 hs]; exact HD3.out, rfl, M5.out⟩
        case measure => (simp [intOf]) <;> omega
      · have h3b : (r == 3) = false := by simp [h3]
        clear h3
        go_wp2_with fail
        refine (HR.out _).mono ?_
        rintro e w2 ⟨rfl, rfl⟩
        go_wp2_with (at_builtin; refine Mem.wp_app (M2.out.skip _) 0 rfl rfl _ _ _ rfl _ 16 Try.underlying35 str_info rfl (by decide) stC_len stC_one d ⟨w1.heap.size, 0, none⟩ 1 rfl rfl (cells_new _ rfl _ _) k HL.out (by omega) (by decide) ?_; intro g4 cp4 w4 M4; have M5 := Lib.hid M4; clear M4)
        go_roundw
        case rel => exact ⟨k + 1, _, _, _, by go_num, by omega, by rw [List.length_append, HL.out]; rfl, by intro s hs; rcases List.mem_append.1 hs with hs | hs; exact HA.out s hs; rw [List.mem_singleton.1 hs]; exact HD1.out, rfl, M5.out⟩
        case measure => (simp [intOf]) <;> omega
    · obtain rfl : k = n := by omega
      go_wp2
      go_ret
      exact ⟨A1, cap1, Ls, rfl, HL.out, HA.out, M1.out.row 0 rfl, M1.out.held⟩
end Pg
end Go.Proofs.Ytgfbfmgdlbdlhaa
