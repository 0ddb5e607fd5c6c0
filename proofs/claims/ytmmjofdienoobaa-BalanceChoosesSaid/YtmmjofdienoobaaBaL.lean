/-
  Contracts: Load (chapter 40), of the program.
-/
import Derived.Test.YtmmjofdienoobaaBaV
set_option linter.unusedVariables false
set_option linter.unusedSimpArgs false
set_option maxRecDepth 100000
namespace Go.Proofs.Ytmmjofdienoobaa
open Go.RowKit
namespace Ba
open Ad Adm
theorem load_no {x : Hc} {L : List Dem} (h : valid x.m x.c L = false ∨ x.m = 0) : load x L = 0 := by
  unfold load
  rw [if_neg]
  rintro ⟨h1, h2⟩
  rcases h with h | h
  · rw [h1] at h; cases h
  · exact h2 h
theorem load_yes {x : Hc} {L : List Dem} (h : valid x.m x.c L = true) (h2 : ¬ x.m = 0) : load x L = sumR L * 1000 / x.m := by
  unfold load; rw [if_pos ⟨h, h2⟩]
theorem sumR_next {L : List Dem} {k : Nat} {d : Dem} (h : L[k]? = some d) : sumR (L.take (k + 1)) = sumR (L.take k) + d.r := by
  obtain ⟨hk, rfl⟩ := List.getElem?_eq_some_iff.1 h
  rw [List.take_succ_eq_append_getElem hk, sumR_snoc]
theorem allv_next {L : List Dem} {k : Nat} {d : Dem} (h : L[k]? = some d) : (L.take (k + 1)).all vd = ((L.take k).all vd && vd d) := by
  obtain ⟨hk, rfl⟩ := List.getElem?_eq_some_iff.1 h
  exact all_snoc L k hk
theorem allv_no {L : List Dem} {k : Nat} {d : Dem} (h : L[k]? = some d) (hv : vd d = false) : L.all vd = false := by
  rw [List.all_eq_false]; exact ⟨d, List.mem_of_getElem? h, by simp [hv]⟩
theorem ret_i {a b : Int} (h : a = b) : Ending.returned (.int .i64 a) = .returned (.int .i64 b) := by rw [h]
set_option maxHeartbeats 2000000 in
theorem load_any (m c : Int) (up : Bool) (A : Option Addr) (n cap : Nat) (L : List Dem) (w : World) (hl : Sl 4 demC w A n L) :
    Calls Try.prog 25 #[.agg #[.int .i64 m, .int .i64 c, .bool up], .slice A n cap] w fun e w' => e = .returned (.int .i64 (load ⟨m, c, up⟩ L)) ∧ Held w w' := by
  have hl1 := hl.1
  have HL := Lib.hid hl
  have M0 := Lib.hid ((Mem.start w).alloc #[.int .i64 m, .int .i64 c, .bool up] 47)
  obtain ⟨v, hv⟩ : ∃ v, vh m c = v := ⟨_, rfl⟩
  have HVH := Lib.hid (fun w' => vh_any m c up w')
  rw [hv] at HVH
  have HVV := Lib.hid hv
  clear hl hv
  cases v
  · have HP : Hid (load ⟨m, c, up⟩ L = 0) := show _ = _ from load_no (.inl (by unfold valid; rw [HVV.out]; rfl))
    go_enter Try.func25, Try.ntmps25
    go_wp2_with (go_at_call 48; refine (HVH.out _).mono ?_; rintro e w1 ⟨rfl, h1⟩)
    go_ret
    exact ⟨ret_i HP.out.symm, M0.out.held.step h1⟩
  · have hmb : 0 ≤ m ∧ m ≤ 1000000 := by
      have := HVV.out
      unfold vh at this
      simp only [Bool.and_eq_true] at this
      exact (units_iff _).1 this.1
    obtain ⟨hm0, hm1⟩ := hmb
    by_cases g1 : m = 0
    · have HP : Hid (load ⟨m, c, up⟩ L = 0) := show _ = _ from load_no (.inr g1)
      have gb : (m == 0) = true := by simp [g1]
      clear g1
      go_enter Try.func25, Try.ntmps25
      go_wp2_with (go_at_call 48; refine (HVH.out _).mono ?_; rintro e w1 ⟨rfl, h1⟩; obtain ⟨c0, c1, c2⟩ := (M0.out.keep h1).box3 0 rfl |>.1)
      go_ret
      exact ⟨ret_i HP.out.symm, M0.out.held.step h1⟩
    · have gb : (m == 0) = false := by simp [g1]
      by_cases g2 : (16 : Int) < n
      · have HP : Hid (load ⟨m, c, up⟩ L = 0) := show _ = _ from load_no (.inl (by unfold valid; rw [hl1]; simp; omega))
        go_enter Try.func25, Try.ntmps25
        go_wp2_with (go_at_call 48; refine (HVH.out _).mono ?_; rintro e w1 ⟨rfl, h1⟩; obtain ⟨c0, c1, c2⟩ := (M0.out.keep h1).box3 0 rfl |>.1)
        go_ret
        exact ⟨ret_i HP.out.symm, M0.out.held.step h1⟩
      · have HLN := Lib.hid hl1
        have HBD := Lib.hid (fun k (h : (L.take k).all vd = true) => sum_bd (L.take k) h)
        have HTK := Lib.hid (take_all hl1 (Nat.le_refl _))
        clear hl1
        go_enter Try.func25, Try.ntmps25
        go_wp2_with (go_at_call 48; refine (HVH.out _).mono ?_; rintro e w1 ⟨rfl, h1⟩; have M1 := Lib.hid (M0.out.keep h1); obtain ⟨c0, c1, c2⟩ := M1.out.box3 0 rfl |>.1)
        go_loopw [5, 23] (fun s i wr => ∃ k : Nat, i = .int .i64 k ∧ k ≤ n ∧ s = .int .i64 (sumR (L.take k)) ∧ (L.take k).all vd = true ∧ Mem w wr [.box w.heap.size #[.int .i64 m, .int .i64 c, .bool up] 47]) (fun _ i _ => n - (intOf i).toNat)
        case atStart => exact ⟨0, rfl, Nat.zero_le _, rfl, rfl, M1.out⟩
        case round =>
          obtain ⟨k, rfl, hk, rfl, hall, M⟩ := hrel
          have M2 := Lib.hid M
          have hsb := HBD.out k hall
          have HA := Lib.hid hall
          rw [List.length_take, HLN.out] at hsb
          obtain ⟨sm, hsm⟩ : ∃ sm, sumR (L.take k) = sm := ⟨_, rfl⟩
          rw [hsm] at hsb ⊢
          have HSM := Lib.hid hsm
          have hs0 : 0 ≤ sm := hsb.1
          have hs1 : sm ≤ 16000000 := by omega
          clear hall M hsb hsm M1
          by_cases hlt : (k : Int) < n
          · obtain ⟨b, off, d, rfl, lb, hd, x0, x1, x2, x3⟩ := Sl.at4 HL.out M2.out.held (k := k) (by omega)
            have M3 := Lib.hid (M2.out.alloc #[.int .i64 d.r, .int .i64 d.l, .int .i64 d.c, .int .i64 d.g] 43)
            obtain ⟨q, hq⟩ : ∃ q, vd d = q := ⟨_, rfl⟩
            have HQ := Lib.hid (fun w' => vd_any d.r d.l d.c d.g w')
            have hq' : vd ⟨d.r, d.l, d.c, d.g⟩ = q := hq
            rw [hq'] at HQ
            have HD := Lib.hid (And.intro hd hq)
            have hlb := lt_of_cell x0
            clear hd hq hq'
            cases q
            · have HP : Hid (load ⟨m, c, up⟩ L = 0) := show _ = _ from load_no (.inl (by unfold valid; rw [allv_no HD.out.1 HD.out.2]; simp))
              go_wp2_with (go_at_call 27; refine (HQ.out _).mono ?_; rintro e w4 ⟨rfl, h4⟩)
              go_ret
              exact ⟨ret_i HP.out.symm, M3.out.held.step h4⟩
            · have hd0 := vd_bd HD.out.2
              have hdr0 : 0 ≤ d.r := hd0.1
              have hdr1 : d.r ≤ 1000000 := hd0.2.1
              clear hd0
              go_wp2_with (go_at_call 27; refine (HQ.out _).mono ?_; rintro e w4 ⟨rfl, h4⟩; have M5 := Lib.hid (M3.out.keep h4); obtain ⟨y0, y1, y2, y3⟩ := M5.out.box4 1 rfl |>.1)
              go_roundw
              case rel => exact ⟨k + 1, by go_num, by omega, by rw [sumR_next HD.out.1, HSM.out], by rw [allv_next HD.out.1, HA.out, HD.out.2]; rfl, M5.out.take 1⟩
              case measure => (simp [intOf]) <;> omega
          · obtain rfl : k = n := by omega
            rw [HTK.out] at HA HSM
            have HP : Hid (load ⟨m, c, up⟩ L = sm * 1000 / m) := show _ = _ by rw [load_yes _ g1, HSM.out]; unfold valid; rw [HVV.out, HLN.out, HA.out]; simp; omega
            obtain ⟨c0, c1, c2⟩ := M2.out.box3 0 rfl |>.1
            have hm2 : ¬ m = 0 := g1
            go_wp2
            go_ret
            exact ⟨ret_i HP.out.symm, M2.out.held⟩
end Ba
end Go.Proofs.Ytmmjofdienoobaa
