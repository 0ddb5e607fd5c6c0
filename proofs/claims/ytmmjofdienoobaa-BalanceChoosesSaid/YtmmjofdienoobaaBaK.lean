/-
  Contracts: Assign (chapter 40), of the program.
-/
import Derived.Test.YtmmjofdienoobaaBaJ
set_option linter.unusedVariables false
set_option linter.unusedSimpArgs false
set_option maxRecDepth 100000
namespace Go.Proofs.Ytmmjofdienoobaa
open Go.RowKit
namespace Ba
open Ad Adm
/-- What Assign hands back. -/
def AsTo (r : Option (List Int)) (w : World) (e : Ending) (w' : World) : Prop :=
  ∃ A n cap, e = .returned (.tuple #[.slice A n cap, .bool r.isSome]) ∧ Sl 1 inC w' A n (r.getD []) ∧ n ≤ cap ∧ (A = none → n = 0) ∧ Held w w'
theorem AsTo.no {r : Option (List Int)} {w w' : World} (hr : r = none) (h : Held w w') : AsTo r w (.returned (.tuple #[.slice none 0 0, .bool false])) w' := by
  subst hr; exact ⟨none, 0, 0, rfl, Sl.nil w' none, Nat.le_refl _, fun _ => rfl, h⟩
theorem assign_out {H : List Hc} {L : List Dem} (h : H.length < 1 ∨ 6 < H.length ∨ 8 < L.length) : assign H L = none := by unfold assign; rw [if_pos h]
theorem assign_in {H : List Hc} {L : List Dem} (h : ¬ (H.length < 1 ∨ 6 < H.length ∨ 8 < L.length)) : assign H L = asg H L L.length [] := by unfold assign; rw [if_neg h]
theorem asg_len {H : List Hc} {L : List Dem} : ∀ (f : Nat) (on q : List Int), on.length + f = L.length → asg H L f on = some q → q.length = L.length
  | 0, on, q, h, hq => by
    rw [asg] at hq; injection hq with hq; rw [← hq]; omega
  | f + 1, on, q, h, hq => by
    have hlt : on.length < L.length := by omega
    rw [asg_step (List.getElem?_eq_getElem hlt)] at hq
    have key : ∀ k, first (gq H L f on L[on.length]) k = some q → q.length = L.length := by
      intro k
      induction k with
      | zero => intro h; cases h
      | succ k ih =>
        intro h1
        cases h2 : first (gq H L f on L[on.length]) k with
        | some x =>
          rw [first, h2] at h1
          exact ih (h2.trans h1)
        | none =>
          rw [first_next h2] at h1
          unfold gq at h1
          split at h1
          · exact asg_len f _ q (by rw [List.length_append]; simp; omega) h1
          · cases h1
    exact key _ hq
theorem lm_nil (H : List Hc) : lm H [] = H.map Hc.m := by
  unfold lm gu
  simp only [List.filter_nil, List.map_nil, sumR, List.sum_nil, Int.sub_zero]
  refine List.ext_getElem? fun j => ?_
  rw [List.getElem?_mapIdx, List.getElem?_map]
theorem lc_nil (H : List Hc) : lc H [] = H.map Hc.c := by
  unfold lc gu
  simp only [List.filter_nil, List.map_nil, sumC, List.sum_nil, Int.sub_zero]
  refine List.ext_getElem? fun j => ?_
  rw [List.getElem?_mapIdx, List.getElem?_map]
theorem map_next {α : Type} {H : List α} {f : α → Int} {k : Nat} {c : α} (h : H[k]? = some c) : (H.take (k + 1)).map f = (H.take k).map f ++ [f c] := by
  rw [take_snoc' h, List.map_append]; rfl
set_option maxHeartbeats 2000000 in
theorem assign_any (A : Option Addr) (n cap : Nat) (A2 : Option Addr) (n2 cap2 : Nat) (H : List Hc) (L : List Dem) (w : World) (hh : Sl 3 hcC w A n H) (hl : Sl 4 demC w A2 n2 L) :
    Calls Try.prog 11 #[.slice A n cap, .slice A2 n2 cap2] w (AsTo (assign H L) w) := by
  have hh1 := hh.1
  have hl1 := hl.1
  by_cases hout : (n : Int) < 1 ∨ 6 < (n : Int) ∨ 8 < (n2 : Int)
  · have HP := Lib.hid (assign_out (H := H) (L := L) (by rw [hh1, hl1]; omega))
    clear hh hl hh1 hl1
    by_cases g1 : (n : Int) < 1
    · go_enter Try.func11, Try.ntmps11
      go_wp2
      go_ret2
      exact AsTo.no HP.out (Held.refl _)
    by_cases g2 : (6 : Int) < n
    · go_enter Try.func11, Try.ntmps11
      go_wp2
      go_ret2
      exact AsTo.no HP.out (Held.refl _)
    have g3 : (8 : Int) < n2 := by omega
    go_enter Try.func11, Try.ntmps11
    go_wp2
    go_ret2
    exact AsTo.no HP.out (Held.refl _)
  · have HP := Lib.hid (assign_in (H := H) (L := L) (by rw [hh1, hl1]; omega))
    have g1 : ¬ (n : Int) < 1 := by omega
    have g2 : ¬ (6 : Int) < n := by omega
    have g3 : ¬ (8 : Int) < n2 := by omega
    have HH := Lib.hid hh
    have HL := Lib.hid hl
    have HLT := Lib.hid (take_all hl1 (Nat.le_refl n2))
    have HHT := Lib.hid (take_all hh1 (Nat.le_refl n))
    rw [hl1] at HP
    have HL1 := Lib.hid hl1
    clear hh hl hh1 hl1 hout
    go_enter Try.func11, Try.ntmps11
    go_wp2
    go_loopw [27] (fun i wr => ∃ k : Nat, i = .int .i64 k ∧ k ≤ n2 ∧ (L.take k).all vd = true ∧ Held w wr) (fun i _ => n2 - (intOf i).toNat)
    case atStart => exact ⟨0, rfl, Nat.zero_le _, rfl, Held.refl _⟩
    case round =>
      obtain ⟨k, rfl, hk, hall, hw⟩ := hrel
      have HA := Lib.hid hall
      have HW := Lib.hid hw
      clear hall hw
      by_cases hlt : (k : Int) < n2
      · obtain ⟨b, off, d, rfl, lb, hd, x0, x1, x2, x3⟩ := Sl.at4 HL.out HW.out (k := k) (by omega)
        have M3 := Lib.hid ((Mem.of HW.out).alloc #[.int .i64 d.r, .int .i64 d.l, .int .i64 d.c, .int .i64 d.g] 43)
        obtain ⟨q, hq⟩ : ∃ q, vd d = q := ⟨_, rfl⟩
        have HQ := Lib.hid (fun w' => vd_any d.r d.l d.c d.g w')
        have hq' : vd ⟨d.r, d.l, d.c, d.g⟩ = q := hq
        rw [hq'] at HQ
        have HD := Lib.hid (And.intro hd hq)
        have hlb := lt_of_cell x0
        clear hd hq hq'
        cases q
        · have HP2 : Hid (assign H L = none) := show _ = _ by rw [HP.out]; exact asg_bad HD.out.1 HD.out.2 n2 [] (Nat.zero_le _) (by simp; omega)
          go_wp2_with (go_at_call 27; refine (HQ.out _).mono ?_; rintro e w4 ⟨rfl, h4⟩)
          go_ret2
          exact AsTo.no HP2.out (M3.out.held.step h4)
        · go_wp2_with (go_at_call 27; refine (HQ.out _).mono ?_; rintro e w4 ⟨rfl, h4⟩)
          go_roundw
          case rel => exact ⟨k + 1, by go_num, by omega, by rw [allv_next HD.out.1, HA.out, HD.out.2]; rfl, M3.out.held.step h4⟩
          case measure => (simp [intOf]) <;> omega
      · obtain rfl : k = n2 := by omega
        rw [HLT.out] at HA
        go_wp2
        go_loopw [8, 9, 37] (fun v u i wr => ∃ j : Nat, i = .int .i64 j ∧ j ≤ n ∧ Mem w wr [.row 3 1 inC w.heap.size v ((H.take j).map Hc.m), .row 3 1 inC w.heap.size u ((H.take j).map Hc.c)]) (fun _ _ i _ => n - (intOf i).toNat)
        case atStart => exact ⟨0, rfl, Nat.zero_le _, ((Mem.of HW.out).nilRow).nilRow⟩
        case round =>
          obtain ⟨j, rfl, hj, M⟩ := hrel
          have M1 := Lib.hid M
          clear M HW
          by_cases hlt2 : (j : Int) < n
          · obtain ⟨b, off, c, rfl, lb, hc, x0, x1, x2⟩ := Sl.at3 HH.out M1.out.held (k := j) (by omega)
            have HN1 := Lib.hid (map_next (f := Hc.m) hc)
            have HN2 := Lib.hid (map_next (f := Hc.c) hc)
            obtain ⟨m, cc, up⟩ := c
            simp only at x0 x1 x2 HN1 HN2
            have hlb := lt_of_cell x0
            simp only at hlb
            have hln : ((H.take j).map Hc.m).length = j := by rw [List.length_map, List.length_take, HH.out.1]; omega
            have hln2 : ((H.take j).map Hc.c).length = j := by rw [List.length_map, List.length_take, HH.out.1]; omega
            have HLN := Lib.hid (And.intro hln hln2)
            have M2 := Lib.hid (M1.out.alloc #[.int .i64 m, .int .i64 cc, .bool up] 47)
            obtain ⟨⟨a0, a1, a2⟩, _, alt⟩ := M2.out.box3 2 rfl
            clear hc hln hln2
            go_wp2_with (first | (at_builtin; refine Mem.wp_app (M2.out.skip _) 0 rfl rfl _ _ _ rfl _ 8 Try.underlying22 info_int rfl (by decide) inC_len inC_one m ⟨wr.heap.size + 1, 0, none⟩ 1 rfl rfl (cells_new _ (by simp) _ _) j HLN.out.1 (by omega) (by decide) ?_; intro g4 cp4 w4 M4; have M5 := Lib.hid M4; clear M4 a0 a1 a2; obtain ⟨⟨a0, a1, a2⟩, _, alt2⟩ := M5.out.box3 2 rfl) | (at_builtin; refine Mem.wp_app (M5.out.skip _) 1 rfl rfl _ _ _ rfl _ 8 Try.underlying22 info_int rfl (by decide) inC_len inC_one cc ⟨w4.heap.size, 0, none⟩ 1 rfl rfl (cells_new _ (by simp) _ _) j HLN.out.2 (by omega) (by decide) ?_; intro g6 cp6 w6 M6; have M7 := Lib.hid M6; clear M6))
            go_roundw
            case rel => exact ⟨j + 1, by go_num, by omega, by rw [HN1.out, HN2.out]; exact M7.out.take 2⟩
            case measure => (simp [intOf]) <;> omega
          · obtain rfl : j = n := by omega
            rw [HHT.out] at M1
            have hml : (H.map Hc.m).length = j := by rw [List.length_map, HH.out.1]
            have hcl : (H.map Hc.c).length = j := by rw [List.length_map, HH.out.1]
            obtain ⟨gm, cm, rfl, hcm⟩ := own_blk (M1.out.row 0 rfl) (by omega)
            obtain ⟨gc, cc, rfl, hcc⟩ := own_blk (M1.out.row 1 rfl) (by omega)
            rw [hml, hcl] at M1
            rw [hml] at hcm ⊢
            rw [hcl] at hcc ⊢
            have HPL := Lib.hid (place_go w A j cap A2 k cap2 H L HH.out HL.out (by omega) (by omega) HA.out k [] 0 [])
            have HZ0 : Hid (L.zip ([] : List Int) = []) := show _ = _ from List.zip_nil_right
            rw [HZ0.out, lm_nil, lc_nil] at HPL
            obtain ⟨r, hr⟩ : ∃ r, asg H L k [] = r := ⟨_, rfl⟩
            have HQL := Lib.hid (fun q => asg_len (H := H) (L := L) k [] q (by simp; exact HL1.out.symm))
            rw [hr] at HPL HP HQL
            clear hml hcl hr
            cases r
            case none =>
              go_wp2_with (first | (at_make; refine Mem.wp_make0 (f := inC) M1.out rfl _ _ 22 rfl (.int .i64 0) 8 Try.underlying22 info_int .i64 .i64 _ k rfl rfl rfl (by omega) (by unfold maxLen; omega) ?_; intro w7 M7 h7; have M8 := Lib.hid (Mem.front M7); clear M7) | (go_at_call 28; refine (HPL.out w7 _ k gm cm gc cc rfl (by omega) (Nat.le_refl _) hcm hcc M8.out).mono ?_; rintro e w9 hp; obtain ⟨rfl, M9⟩ : _ ∧ _ := hp; have M10 := Lib.hid M9; clear M9))
              go_ret2
              exact AsTo.no HP.out M10.out.held
            case some q =>
              go_wp2_with (first | (at_make; refine Mem.wp_make0 (f := inC) M1.out rfl _ _ 22 rfl (.int .i64 0) 8 Try.underlying22 info_int .i64 .i64 _ k rfl rfl rfl (by omega) (by unfold maxLen; omega) ?_; intro w7 M7 h7; have M8 := Lib.hid (Mem.front M7); clear M7) | (go_at_call 28; refine (HPL.out w7 _ k gm cm gc cc rfl (by omega) (Nat.le_refl _) hcm hcc M8.out).mono ?_; rintro e w9 hp; obtain ⟨rfl, ho9, h9⟩ : _ ∧ _ ∧ _ := hp; have HO9 := Lib.hid ho9; clear ho9))
              go_ret2
              rw [HP.out]
              exact ⟨_, _, _, rfl, (Own.reads inC_len HO9.out).1, Own.cap HO9.out, (fun h => by cases h), h9⟩
end Ba
end Go.Proofs.Ytmmjofdienoobaa
