/-
  The law package of chapter 40: hosts and demands out of numbers.
-/
import Derived.Test.YtmmjofdienoobaaLawBaA
import Derived.Test.YtmmjofdienoobaaMk
set_option linter.unusedVariables false
set_option linter.unusedSimpArgs false
set_option maxRecDepth 100000
namespace Go.Proofs.Ytmmjofdienoobaa
open Go.RowKit
namespace Ba
open Ad Adm
def hostOf (x : Int) : Hc := ⟨6 + ((Mk.mix x 61 % 16 : Nat) : Int), 6 + ((Mk.mix x 61 / 16 % 16 : Nat) : Int), decide (Mk.mix x 61 / 256 % 8 ≠ 0)⟩
def grpOf (v : Nat) : Int := ((v / 16 % 8 - 4 : Nat) : Int)
def demOf (x : Int) : Dem := ⟨1 + ((Mk.mix x 62 % 4 : Nat) : Int), 1 + ((Mk.mix x 62 % 4 : Nat) : Int) + ((Mk.mix x 62 / 128 % 4 : Nat) : Int), ((Mk.mix x 62 / 4 % 4 : Nat) : Int), grpOf (Mk.mix x 62)⟩
theorem dem_vd (x : Int) : vd (demOf x) = true := by
  rw [vd_iff, units_iff, units_iff]
  simp only [demOf, grpOf]
  omega
theorem host_vh (x : Int) : vh (hostOf x).m (hostOf x).c = true := by
  unfold vh
  rw [Bool.and_eq_true, units_iff, units_iff]
  simp only [hostOf]
  omega
/-- What problem hands back. -/
def PrTo (hs : List Hc) (ds : List Dem) (w : World) (e : Ending) (w' : World) : Prop :=
  ∃ A cap B c, e = .returned (.tuple #[.slice A hs.length cap, .slice B ds.length c]) ∧ Sl 3 hcC w' A hs.length hs ∧ Sl 4 demC w' B ds.length ds ∧ ds.length ≤ c ∧ (A = none → hs.length = 0) ∧ (B = none → ds.length = 0) ∧ Held w w'
theorem mapn {α : Type} {l : List Int} {f : Int → α} {k : Nat} {c : Int} (h : l[k]? = some c) : (l.take (k + 1)).map f = (l.take k).map f ++ [f c] := by
  rw [take_snoc' h, List.map_append]; rfl
theorem info_hc : (Try.prog.info? 47).map (fun i => (i.zero, i.size, i.bytes)) = some (some (.agg #[.int .i64 0, .int .i64 0, .bool false]), 3, 24) := by kernel_rfl
set_option maxHeartbeats 2000000 in
theorem problem_any (A : Option Addr) (n cap : Nat) (B : Option Addr) (m c : Nat) (l1 l2 : List Int) (w : World) (h1 : Sl 1 inC w A n l1) (h2 : Sl 1 inC w B m l2) (hn : (n : Int) ≤ 1000000) (hm : (m : Int) ≤ 1000000) :
    Calls Try.prog 10 #[.slice A n cap, .slice B m c] w (PrTo (l1.map hostOf) (l2.map demOf) w) := by
  have H1 := Lib.hid h1
  have H2 := Lib.hid h2
  have T1 := Lib.hid (take_all h1.1 (Nat.le_refl n))
  have T2 := Lib.hid (take_all h2.1 (Nat.le_refl m))
  have M0 := Lib.hid (((Mem.start w).nilRow (e := 47) (s := 3) (f := hcC)).nilRow (e := 43) (s := 4) (f := demC))
  clear h1 h2
  go_enter Try.func10, Try.ntmps10
  go_wp2
  go_loopw [6, 8] (fun v i wr => ∃ k : Nat, i = .int .i64 k ∧ k ≤ n ∧ Mem w wr [.row 47 3 hcC w.heap.size v ((l1.take k).map hostOf), .row 43 4 demC w.heap.size (.slice none 0 0) []]) (fun _ i _ => n - (intOf i).toNat)
  case atStart => exact ⟨0, rfl, Nat.zero_le _, M0.out⟩
  case round =>
    obtain ⟨k, rfl, hk, M⟩ := hrel
    have M1 := Lib.hid M
    clear M M0
    by_cases hlt : (k : Int) < n
    · obtain ⟨b, off, x, rfl, lb, hx, x0⟩ := Sl.at1 H1.out M1.out.held (k := k) (by omega)
      have HN := Lib.hid (mapn (f := hostOf) hx)
      have hln : ((l1.take k).map hostOf).length = k := by rw [List.length_map, List.length_take, H1.out.1]; omega
      have HLN := Lib.hid hln
      have k0 : ¬ (k : Int) < 0 := by omega
      have HMX := Lib.hid (fun w' => Mk.mix_any x 61 w')
      have hv := Mk.mix_lt x 61
      have HH : Hid (hostOf x = ⟨6 + ((Mk.mix x 61 % 16 : Nat) : Int), 6 + ((Mk.mix x 61 / 16 % 16 : Nat) : Int), decide (Mk.mix x 61 / 256 % 8 ≠ 0)⟩) := rfl
      obtain ⟨v, hvv⟩ : ∃ v, Mk.mix x 61 = v := ⟨_, rfl⟩
      rw [hvv] at HMX hv HH
      have a1 : bits .and .i64 (v : Int) 15 = ((v % 16 : Nat) : Int) := by rw [show (15 : Int) = ((15 : Nat) : Int) from rfl, Mk.and_i64 v 15 hv (by omega), nat_mask4]
      have a2 : bits .and .i64 ((v : Int) / 16) 15 = ((v / 16 % 16 : Nat) : Int) := by
        rw [show (15 : Int) = ((15 : Nat) : Int) from rfl, show (v : Int) / 16 = ((v / 16 : Nat) : Int) by omega, Mk.and_i64 _ 15 (by omega) (by omega), nat_mask4]
      have a3 : bits .and .i64 ((v : Int) / 256) 7 = ((v / 256 % 8 : Nat) : Int) := by
        rw [show (7 : Int) = ((7 : Nat) : Int) from rfl, show (v : Int) / 256 = ((v / 256 : Nat) : Int) by omega, Mk.and_i64 _ 7 (by omega) (by omega), nat_mask3]
      obtain ⟨p, hp⟩ : ∃ p, v % 16 = p := ⟨_, rfl⟩
      obtain ⟨q, hq⟩ : ∃ q, v / 16 % 16 = q := ⟨_, rfl⟩
      obtain ⟨r, hr⟩ : ∃ r, v / 256 % 8 = r := ⟨_, rfl⟩
      rw [hp] at a1 HH
      rw [hq] at a2 HH
      rw [hr] at a3 HH
      have hp16 : (p : Int) ≤ 15 := by omega
      have hq16 : (q : Int) ≤ 15 := by omega
      have hv' : (v : Int) ≤ 9223372036854775807 := by omega
      have hub : ((r : Int) != 0) = decide (r ≠ 0) := by
        by_cases e : r = 0 <;> simp [e]
      obtain ⟨u, hu⟩ : ∃ u, decide (r ≠ 0) = u := ⟨_, rfl⟩
      rw [hu] at hub HH
      clear hln hx hvv hp hq hr hv hu
      go_wp2_with (first | (go_at_call 26; refine (HMX.out _).mono ?_; rintro e w2 ⟨rfl, rfl⟩) | (at_builtin; refine Mem.wp_app (M1.out.skip _) 0 rfl rfl _ _ _ rfl _ 24 Try.underlying24 info_hc rfl (by decide) hcC_len hcC_one ⟨6 + (p : Int), 6 + (q : Int), u⟩ ⟨wr.heap.size, 0, none⟩ 1 rfl rfl (cells_new _ (by simp) _ _) k HLN.out (by omega) (by decide) ?_; intro g4 cp4 w4 M4; have M5 := Lib.hid M4; clear M4))
      go_roundw
      case rel => exact ⟨k + 1, by go_num, by omega, by rw [HN.out, HH.out]; exact M5.out⟩
      case measure => (simp [intOf]) <;> omega
    · obtain rfl : k = n := by omega
      rw [T1.out] at M1
      go_wp2
      go_loopw [7, 10] (fun v i wr => ∃ j : Nat, i = .int .i64 j ∧ j ≤ m ∧ Mem w wr [.row 47 3 hcC w.heap.size u6 (l1.map hostOf), .row 43 4 demC w.heap.size v ((l2.take j).map demOf)]) (fun _ i _ => m - (intOf i).toNat)
      case atStart => exact ⟨0, rfl, Nat.zero_le _, M1.out⟩
      case round =>
        obtain ⟨j, rfl, hj, M⟩ := hrel
        have M2 := Lib.hid M
        clear M M1
        by_cases hlt2 : (j : Int) < m
        · obtain ⟨b, off, x, rfl, lb, hx, x0⟩ := Sl.at1 H2.out M2.out.held (k := j) (by omega)
          have HN := Lib.hid (mapn (f := demOf) hx)
          have hln : ((l2.take j).map demOf).length = j := by rw [List.length_map, List.length_take, H2.out.1]; omega
          have HLN := Lib.hid hln
          have k0 : ¬ (j : Int) < 0 := by omega
          have HMX := Lib.hid (fun w' => Mk.mix_any x 62 w')
          have hv := Mk.mix_lt x 62
          have HH : Hid (demOf x = ⟨1 + ((Mk.mix x 62 % 4 : Nat) : Int), 1 + ((Mk.mix x 62 % 4 : Nat) : Int) + ((Mk.mix x 62 / 128 % 4 : Nat) : Int), ((Mk.mix x 62 / 4 % 4 : Nat) : Int), ((Mk.mix x 62 / 16 % 8 - 4 : Nat) : Int)⟩) := rfl
          obtain ⟨v, hvv⟩ : ∃ v, Mk.mix x 62 = v := ⟨_, rfl⟩
          rw [hvv] at HMX hv HH
          have a1 : bits .and .i64 (v : Int) 3 = ((v % 4 : Nat) : Int) := by rw [show (3 : Int) = ((3 : Nat) : Int) from rfl, Mk.and_i64 v 3 hv (by omega), nat_mask2]
          have a2 : bits .and .i64 ((v : Int) / 4) 3 = ((v / 4 % 4 : Nat) : Int) := by
            rw [show (3 : Int) = ((3 : Nat) : Int) from rfl, show (v : Int) / 4 = ((v / 4 : Nat) : Int) by omega, Mk.and_i64 _ 3 (by omega) (by omega), nat_mask2]
          have a3 : bits .and .i64 ((v : Int) / 16) 7 = ((v / 16 % 8 : Nat) : Int) := by
            rw [show (7 : Int) = ((7 : Nat) : Int) from rfl, show (v : Int) / 16 = ((v / 16 : Nat) : Int) by omega, Mk.and_i64 _ 7 (by omega) (by omega), nat_mask3]
          have a4 : bits .and .i64 ((v : Int) / 128) 3 = ((v / 128 % 4 : Nat) : Int) := by
            rw [show (3 : Int) = ((3 : Nat) : Int) from rfl, show (v : Int) / 128 = ((v / 128 : Nat) : Int) by omega, Mk.and_i64 _ 3 (by omega) (by omega), nat_mask2]
          obtain ⟨p, hp⟩ : ∃ p, v % 4 = p := ⟨_, rfl⟩
          obtain ⟨q, hq⟩ : ∃ q, v / 4 % 4 = q := ⟨_, rfl⟩
          obtain ⟨r, hr⟩ : ∃ r, v / 16 % 8 = r := ⟨_, rfl⟩
          obtain ⟨t, ht⟩ : ∃ t, v / 128 % 4 = t := ⟨_, rfl⟩
          rw [hp] at a1 HH
          rw [hq] at a2 HH
          rw [hr] at a3 HH
          rw [ht] at a4 HH
          have hp4 : (p : Int) ≤ 3 := by omega
          have hq4 : (q : Int) ≤ 3 := by omega
          have hr8 : (r : Int) ≤ 7 := by omega
          have ht4 : (t : Int) ≤ 3 := by omega
          have hv' : (v : Int) ≤ 9223372036854775807 := by omega
          obtain ⟨g, hg⟩ : ∃ g : Int, ((r - 4 : Nat) : Int) = g := ⟨_, rfl⟩
          rw [hg] at HH
          clear hln hx hvv hp hq hr ht hv
          by_cases hr4 : (0 : Int) < (r : Int) - 4
          · obtain rfl : g = (r : Int) - 4 := by omega
            clear hg
            have M3 := Lib.hid (M2.out.alloc #[.int .i64 (1 + (p : Int)), .int .i64 (1 + (p : Int) + t), .int .i64 q, .int .i64 ((r : Int) - 4)] 43)
            go_wp2_with (first | (go_at_call 26; refine (HMX.out _).mono ?_; rintro e w2 ⟨rfl, rfl⟩; obtain ⟨⟨z0, z1, z2, z3⟩, ⟨f0, f1, f2, f3⟩, zlt⟩ := M3.out.box4 2 rfl; have M4 := M3) | (at_builtin; refine Mem.wp_app (M4.out.skip _) 1 rfl rfl _ _ _ rfl _ 32 Try.underlying25 info_dem rfl (by decide) demC_len demC_one ⟨1 + (p : Int), 1 + (p : Int) + t, q, (r : Int) - 4⟩ ⟨wr.heap.size + 1, 0, none⟩ 1 rfl rfl (cells_new _ (by simp) _ _) j HLN.out (by omega) (by decide) ?_; intro g4 cp4 w4 M5; have M6 := Lib.hid M5; clear M5))
            go_roundw
            case rel => exact ⟨j + 1, by go_num, by omega, by rw [HN.out, HH.out]; exact M6.out.take 2⟩
            case measure => (simp [intOf]) <;> omega
          · obtain rfl : g = 0 := by omega
            clear hg
            have M3 := Lib.hid (M2.out.alloc #[.int .i64 (1 + (p : Int)), .int .i64 (1 + (p : Int) + t), .int .i64 q, .int .i64 0] 43)
            go_wp2_with (first | (go_at_call 26; refine (HMX.out _).mono ?_; rintro e w2 ⟨rfl, rfl⟩; obtain ⟨⟨z0, z1, z2, z3⟩, ⟨f0, f1, f2, f3⟩, zlt⟩ := M3.out.box4 2 rfl; have M4 := M3) | (at_builtin; refine Mem.wp_app (M4.out.skip _) 1 rfl rfl _ _ _ rfl _ 32 Try.underlying25 info_dem rfl (by decide) demC_len demC_one ⟨1 + (p : Int), 1 + (p : Int) + t, q, 0⟩ ⟨wr.heap.size + 1, 0, none⟩ 1 rfl rfl (cells_new _ (by simp) _ _) j HLN.out (by omega) (by decide) ?_; intro g4 cp4 w4 M5; have M6 := Lib.hid M5; clear M5))
            go_roundw
            case rel => exact ⟨j + 1, by go_num, by omega, by rw [HN.out, HH.out]; exact M6.out.take 2⟩
            case measure => (simp [intOf]) <;> omega
        · obtain rfl : j = m := by omega
          rw [T2.out] at M2
          have HR0 := M2.out.row 0 rfl
          have HR1 := M2.out.row 1 rfl
          have S0 := Lib.hid HR0
          have S1 := Lib.hid HR1
          obtain ⟨A7, c7, rfl, hc7, _⟩ := HR0.shape
          obtain ⟨A8, c8, rfl, hc8, _⟩ := HR1.shape
          clear HR0 HR1
          obtain ⟨hl, hhl⟩ : ∃ hl, l1.map hostOf = hl := ⟨_, rfl⟩
          obtain ⟨dl, hdl⟩ : ∃ dl, l2.map demOf = dl := ⟨_, rfl⟩
          rw [hhl] at S0 M2 hc7 ⊢
          rw [hdl] at S1 M2 hc8 ⊢
          have HE := Lib.hid (And.intro hhl hdl)
          clear hhl hdl
          go_wp2
          go_ret2
          rw [HE.out.1, HE.out.2]
          exact ⟨A7, c7, A8, c8, rfl, (Own.reads hcC_len S0.out).1, (Own.reads demC_len S1.out).1, hc8, own_none S0.out, own_none S1.out, M2.out.held⟩
end Ba
end Go.Proofs.Ytmmjofdienoobaa
