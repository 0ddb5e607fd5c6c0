/-
  The law package of chapter 40: its own test of a placement.
-/
import Derived.Test.YtmmjofdienoobaaBpP
set_option linter.unusedVariables false
set_option linter.unusedSimpArgs false
set_option maxRecDepth 100000
namespace Go.Proofs.Ytmmjofdienoobaa
open Go.RowKit
namespace Ba
open Ad Adm
set_option maxHeartbeats 2000000 in
theorem lawvalid_any (A : Option Addr) (n cap : Nat) (A2 : Option Addr) (n2 cap2 : Nat) (A3 : Option Addr) (n3 cap3 : Nat) (H : List Hc) (L : List Dem) (on : List Int) (w : World)
    (hh : Sl 3 hcC w A n H) (hl : Sl 4 demC w A2 n2 L) (ho : Sl 1 inC w A3 n3 on) (hn0 : 1 ≤ (n : Int)) (hn : (n : Int) ≤ 6) (hn2 : (n2 : Int) ≤ 16) (hn3 : (n3 : Int) ≤ 1000000) :
    Calls Try.prog 12 #[.slice A n cap, .slice A2 n2 cap2, .slice A3 n3 cap3] w fun e w' => e = .returned (.bool (place H L on)) ∧ Held w w' := by
  have hh1 := hh.1
  have hl1 := hl.1
  have ho1 := ho.1
  by_cases hout : ¬ (n3 : Int) = n2
  · have HP : Hid (place H L on = false) := show _ = _ from place_out (by unfold out; rw [hh1, hl1, ho1]; simp; omega)
    have g4 : ((n3 : Int) != n2) = true := by simp; omega
    clear hh hl ho hh1 hl1 ho1 hout
    go_enter Try.func12, Try.ntmps12
    go_wp2
    go_ret
    exact ⟨ret_b HP.out.symm, Held.refl _⟩
  · obtain rfl : n3 = n2 := by omega
    have HOUT : Hid (out H L on = false) := show _ = _ by unfold out; rw [hh1, hl1, ho1]; rw [decide_eq_false_iff_not]; omega
    have g4 : ((n3 : Int) != n3) = false := by simp
    have HH := Lib.hid hh
    have HL := Lib.hid hl
    have HO := Lib.hid ho
    have HHL := Lib.hid hh1
    have HE : Hid (on.take n3 = on) := show _ = _ from take_all ho1 (Nat.le_refl _)
    have HEZ : Hid ((L.zip on).take n3 = L.zip on) := zip_all hl.1 (Nat.le_refl _)
    have HB := Lib.hid (fun h k => gu_bd L on h k n3 hl.1)
    clear hh hl ho hh1 hl1 ho1 hout
    go_enter Try.func12, Try.ntmps12
    go_wp2
    go_loopw [7] (fun i wr => ∃ k : Nat, i = .int .i64 k ∧ k ≤ n ∧ fitTo H (L.zip on) k = true ∧ (0 < k → on.all (inH n) = true) ∧ Held w wr) (fun i _ => n - (intOf i).toNat)
    case atStart => exact ⟨0, rfl, Nat.zero_le _, rfl, fun h => absurd h (Nat.lt_irrefl 0), Held.refl _⟩
    case round =>
      obtain ⟨j, rfl, hj, hft, hall, hw⟩ := hrel
      have HF := Lib.hid hft
      have HALL := Lib.hid hall
      have HV := Lib.hid hw
      clear hft hall hw
      have j0 : ¬ (j : Int) < 0 := by omega
      by_cases hlt2 : (j : Int) < n
      · have HWJ := Lib.hid ((Mem.of HV.out).nilRow (e := 43) (s := 4) (f := demC))
        obtain ⟨wA, hwA⟩ : ∃ wA, wA = wr := ⟨_, rfl⟩
        rw [← hwA] at HV HWJ ⊢
        clear hwA wr
        go_wp2
        go_loopw [8, 9] (fun v i wr => ∃ k : Nat, i = .int .i64 k ∧ k ≤ n3 ∧ (on.take k).all (inH n) = true ∧ Mem w wr [.row 43 4 demC w.heap.size v (gu ((L.zip on).take k) j)]) (fun _ i _ => n3 - (intOf i).toNat)
        case atStart => exact ⟨0, rfl, Nat.zero_le _, rfl, by simpa [gu] using HWJ.out⟩
        case round =>
          obtain ⟨k, rfl, hk, hall, M⟩ := hrel
          have M1 := Lib.hid M
          have HA := Lib.hid hall
          clear M hall HWJ HV
          have k0 : ¬ (k : Int) < 0 := by omega
          by_cases hlt : (k : Int) < n3
          · obtain ⟨b, off, d, rfl, lb, hd, c0, c1, c2, c3⟩ := Sl.at4 HL.out M1.out.held (k := k) (by omega)
            obtain ⟨b2, off2, x, rfl, lb2, hx, x0⟩ := Sl.at1 HO.out M1.out.held (k := k) (by omega)
            have HX := Lib.hid hx
            have hs := gu_take L on k d x j hd hx
            have hlen := HB.out j k
            clear hx hd
            by_cases h1 : x < 0
            · have HP : Hid (place H L on = false) := show _ = _ from place_in HX.out (by unfold inH; simp; omega)
              go_wp2
              go_ret
              exact ⟨ret_b HP.out.symm, M1.out.held⟩
            · by_cases h2 : (n : Int) ≤ x
              · have HP : Hid (place H L on = false) := show _ = _ from place_in HX.out (by unfold inH; rw [HHL.out]; simp; omega)
                go_wp2
                go_ret
                exact ⟨ret_b HP.out.symm, M1.out.held⟩
              · have HA2 : Hid ((on.take (k + 1)).all (inH n) = true) := show _ = _ by rw [all_next HX.out, HA.out]; unfold inH; simp; omega
                by_cases he : x = j
                · have HS : Hid (gu ((L.zip on).take (k + 1)) j = gu ((L.zip on).take k) j ++ [d]) := show _ = _ by rw [hs]; simp [one, he]
                  have hq : (x == (j : Int)) = true := by simp [he]
                  obtain ⟨ln, hln⟩ : ∃ ln, (gu ((L.zip on).take k) j).length = ln := ⟨_, rfl⟩
                  rw [hln] at hlen
                  have HLN := Lib.hid hln
                  clear hs hln he
                  go_wp2_with (at_builtin; refine Mem.wp_app (M1.out.skip _) 0 rfl rfl _ _ _ rfl _ 32 Try.underlying25 info_dem rfl (by decide) demC_len demC_one d ⟨wr.heap.size, 0, none⟩ 1 rfl rfl (cells_new _ (by simp) _ _) ln HLN.out (by omega) (by decide) ?_; intro g4 cp4 w4 M4; have M5 := Lib.hid M4; clear M4)
                  go_roundw
                  case rel => exact ⟨k + 1, by go_num, by omega, HA2.out, by rw [HS.out]; exact M5.out⟩
                  case measure => (simp [intOf]) <;> omega
                · have HS : Hid (gu ((L.zip on).take (k + 1)) j = gu ((L.zip on).take k) j) := show _ = _ by rw [hs]; simp [one, he]
                  have hb : (x == (j : Int)) = false := by simp [he]
                  clear hs he
                  go_wp2
                  go_roundw
                  case rel => exact ⟨k + 1, by go_num, by omega, HA2.out, by rw [HS.out]; exact M1.out⟩
                  case measure => (simp [intOf]) <;> omega
          · obtain rfl : k = n3 := by omega
            rw [HE.out] at HA
            rw [HEZ.out] at M1
            obtain ⟨b, off, c, rfl, lb, hc, c0, c1, c2⟩ := Sl.at3 HH.out M1.out.held (k := j) (by omega)
            have HFN := Lib.hid (fit_next (Z := L.zip on) hc)
            have HGL : Hid (((gu (L.zip on) j).length : Int) ≤ 100) := show _ ≤ _ by have := HB.out j k; rw [HEZ.out] at this; omega
            obtain ⟨G, hG⟩ : ∃ G, gu (L.zip on) j = G := ⟨_, rfl⟩
            rw [hG] at M1 HGL HFN
            obtain ⟨A5, cap5, rfl, hc5, _⟩ := (M1.out.row 0 rfl).shape
            obtain ⟨q, hq⟩ : ∃ q, fits c.m c.c c.up G = q := ⟨_, rfl⟩
            have HFI := Lib.hid (fits_any c.m c.c c.up A5 G.length cap5 G wr (ds_of_sl (Own.reads demC_len (M1.out.row 0 rfl)).1) HGL.out hc5)
            rw [hq] at HFN HFI
            clear hc hG hq
            cases q
            · have HP : Hid (place H L on = false) := show _ = _ from place_fit (k := j + 1) (by rw [HHL.out]; omega) (by rw [HFN.out]; simp)
              go_wp2_with (go_at_call 29; refine HFI.out.mono ?_; rintro e w6 ⟨rfl, h6⟩)
              go_ret
              exact ⟨ret_b HP.out.symm, M1.out.held.step h6⟩
            · have HF2 : Hid (fitTo H (L.zip on) (j + 1) = true) := show _ = _ by rw [HFN.out, HF.out]; rfl
              go_wp2_with (go_at_call 29; refine HFI.out.mono ?_; rintro e w6 ⟨rfl, h6⟩)
              go_roundw
              case rel => exact ⟨j + 1, by go_num, by omega, HF2.out, fun _ => HA.out, M1.out.held.step h6⟩
              case measure => (simp [intOf]) <;> omega
      · obtain rfl : j = n := by omega
        have HP : Hid (place H L on = true) := show _ = _ from place_ok HOUT.out (by rw [HHL.out]; exact HALL.out (by omega)) (by rw [HHL.out]; exact HF.out)
        go_wp2
        go_ret
        exact ⟨ret_b HP.out.symm, HV.out⟩
/-- The law of Assign: what it finds is valid; and where there is a valid placement, it finds one that is not behind it. -/
def lexle (q o : List Int) : Prop := q = o ∨ ∃ i x y, q.take i = o.take i ∧ q[i]? = some x ∧ o[i]? = some y ∧ x < y
/-- A placement of the first guests. -/
def Pre (H : List Hc) (L : List Dem) (on : List Int) : Prop := (∀ x ∈ on, 0 ≤ x ∧ x < H.length) ∧ ∀ (k : Nat) (c : Hc), H[k]? = some c → Fit c (gu (L.zip on) k)
theorem pre_add {H : List Hc} {L : List Dem} {on : List Int} {d : Dem} {h : Nat} (hL : L.length ≤ 16) (hd : L[on.length]? = some d) (hp : Pre H L on) (hm : may H (L.zip on) d h = true) : Pre H L (on ++ [(h : Int)]) := by
  unfold may at hm
  split at hm
  · rename_i c hc
    have ha := of_decide_eq_true hm
    have hh := (List.getElem?_eq_some_iff.1 hc).1
    refine ⟨fun x hx => ?_, fun k c' hc' => ?_⟩
    · rcases List.mem_append.1 hx with hx | hx
      · exact hp.1 x hx
      · rw [List.mem_singleton] at hx; subst hx; omega
    · rw [zip_snoc hd, gu_snoc]
      by_cases e : (h : Int) = k
      · rw [if_pos e]
        obtain rfl : h = k := by omega
        rw [hc] at hc'; injection hc' with hc'; subst hc'
        refine (Fit.add (hp.2 h c hc) ?_ ha).perm (List.perm_append_comm (l₁ := [d]))
        have := gu_len (L.zip on) h
        rw [List.length_zip] at this; omega
      · rw [if_neg e, List.append_nil]; exact hp.2 k c' hc'
  · cases hm
theorem asg_sound {H : List Hc} {L : List Dem} (hL : L.length ≤ 16) : ∀ (f : Nat) (on q : List Int), on.length + f = L.length → Pre H L on → asg H L f on = some q → Pre H L q ∧ q.take on.length = on
  | 0, on, q, h, hp, hq => by
    rw [asg] at hq; injection hq with hq; subst hq
    exact ⟨hp, List.take_length⟩
  | f + 1, on, q, h, hp, hq => by
    have hlt : on.length < L.length := by omega
    have hd := List.getElem?_eq_getElem hlt
    rw [asg_step hd] at hq
    have key : ∀ k, first (gq H L f on L[on.length]) k = some q → Pre H L q ∧ q.take on.length = on := by
      intro k
      induction k with
      | zero => intro h; cases h
      | succ k ih =>
        intro h1
        cases h2 : first (gq H L f on L[on.length]) k with
        | some x => rw [first, h2] at h1; exact ih (h2.trans h1)
        | none =>
          rw [first_next h2] at h1
          unfold gq at h1
          split at h1
          · rename_i hm
            obtain ⟨g1, g2⟩ := asg_sound hL f _ q (by rw [List.length_append]; simp; omega) (pre_add hL hd hp hm) h1
            refine ⟨g1, ?_⟩
            have := congrArg (List.take on.length) g2
            rw [List.take_take, List.length_append] at this
            rw [Nat.min_eq_left (by simp)] at this
            rw [this, List.take_append_of_le_length (Nat.le_refl _), List.take_length]
          · cases h1
    exact key _ hq
theorem fit_admit {c : Hc} {G : List Dem} {d : Dem} (hl : G.length + 1 ≤ 16) (h : Fit c (G ++ [d])) : admit c.m c.c c.up G d = 0 := by
  have hf := (fits_Fit (by rw [List.length_append]; simpa using hl)).2 h
  unfold fits at hf
  have e : (G ++ [d]).length = G.length + 1 := by simp
  rw [e, fits_step (by simp), Bool.and_eq_true, decide_eq_true_eq] at hf
  have h2 := hf.2
  rw [List.take_append_of_le_length (Nat.le_refl _), List.take_length] at h2
  simpa using h2
theorem asg_complete {H : List Hc} {L : List Dem} {o : List Int} (hL : L.length ≤ 16) (ho : o.length = L.length) (hp : Pre H L o) : ∀ (f : Nat) (on : List Int), on.length + f = L.length → o.take on.length = on → ∃ q, asg H L f on = some q ∧ lexle q o
  | 0, on, h, ht => ⟨on, by rw [asg], .inl (by rw [← ht]; exact List.take_of_length_le (by omega))⟩
  | f + 1, on, h, ht => by
    have hlt : on.length < L.length := by omega
    have hlo : on.length < o.length := by omega
    have hd := List.getElem?_eq_getElem hlt
    have hx := hp.1 o[on.length] (List.getElem_mem hlo)
    obtain ⟨h0, hh0⟩ := Int.eq_ofNat_of_zero_le hx.1
    have hc := List.getElem?_eq_getElem (show h0 < H.length by omega)
    have ht2 : o.take (on.length + 1) = on ++ [(h0 : Int)] := by
      rw [List.take_succ_eq_append_getElem hlo, ht, hh0]
    have hm : may H (L.zip on) L[on.length] h0 = true := by
      rw [may_at hc, decide_eq_true_eq]
      refine fit_admit ?_ ?_
      · have := gu_len (L.zip on) h0
        rw [List.length_zip] at this; omega
      · have hs : (gu (L.zip (on ++ [(h0 : Int)])) h0).Sublist (gu (L.zip o) h0) := by
          rw [← ht2]
          have : L.zip (o.take (on.length + 1)) = (L.zip o).take (on.length + 1) := by
            rw [← zip_cut L (o.take (on.length + 1)), List.length_take, Nat.min_eq_left (by omega)]; exact List.take_zipWith.symm
          rw [this]
          unfold gu
          exact ((List.take_sublist _ _).filter _).map _
        rw [zip_snoc hd, gu_snoc, if_pos rfl] at hs
        exact (hp.2 h0 _ hc).sub hs
    obtain ⟨q, hq, hle⟩ := asg_complete hL ho hp f (on ++ [(h0 : Int)]) (by rw [List.length_append]; simp; omega) (by rw [List.length_append, List.length_singleton, ht2])
    rw [asg_step hd]
    have hgq : gq H L f on L[on.length] h0 = some q := by unfold gq; rw [if_pos hm]; exact hq
    cases hf : first (gq H L f on L[on.length]) h0 with
    | none =>
      refine ⟨q, first_stay (k := h0 + 1) ?_ _ (by omega), hle⟩
      rw [first_next hf]; exact hgq
    | some q' =>
      refine ⟨q', first_stay hf _ (by omega), .inr ?_⟩
      have key : ∀ k, k ≤ h0 → first (gq H L f on L[on.length]) k = some q' → ∃ h : Nat, h < h0 ∧ asg H L f (on ++ [(h : Int)]) = some q' := by
        intro k
        induction k with
        | zero => intro _ h; cases h
        | succ k ih =>
          intro hk h1
          cases h2 : first (gq H L f on L[on.length]) k with
          | some x => rw [first, h2] at h1; exact ih (by omega) (h2.trans h1)
          | none =>
            rw [first_next h2] at h1
            unfold gq at h1
            split at h1
            · exact ⟨k, by omega, h1⟩
            · cases h1
      obtain ⟨h1, hlt1, ha1⟩ := key h0 (Nat.le_refl _) hf
      have hpf : ∀ (f : Nat) (on q : List Int), on.length + f = L.length → asg H L f on = some q → q.take on.length = on := by
        intro f
        induction f with
        | zero => intro on q _ hq; rw [asg] at hq; injection hq with hq; subst hq; exact List.take_length
        | succ f ih =>
          intro on q hl hq
          have hlt : on.length < L.length := by omega
          rw [asg_step (List.getElem?_eq_getElem hlt)] at hq
          have key : ∀ k, first (gq H L f on L[on.length]) k = some q → q.take on.length = on := by
            intro k
            induction k with
            | zero => intro h; cases h
            | succ k ih2 =>
              intro h1
              cases h2 : first (gq H L f on L[on.length]) k with
              | some x => rw [first, h2] at h1; exact ih2 (h2.trans h1)
              | none =>
                rw [first_next h2] at h1
                unfold gq at h1
                split at h1
                · have := congrArg (List.take on.length) (ih _ q (by rw [List.length_append]; simp; omega) h1)
                  rw [List.take_take, List.length_append, Nat.min_eq_left (by simp)] at this
                  rw [this, List.take_append_of_le_length (Nat.le_refl _), List.take_length]
                · cases h1
          exact key _ hq
      have hq1 := hpf f _ q' (by rw [List.length_append]; simp; omega) ha1
      have e1 := congrArg (List.take on.length) hq1
      rw [List.take_take, List.length_append, Nat.min_eq_left (by simp), List.take_append_of_le_length (Nat.le_refl _), List.take_length] at e1
      have e2 := congrArg (fun l => l[on.length]?) hq1
      simp only [List.getElem?_take, List.length_append, List.length_singleton] at e2
      rw [if_pos (by omega), List.getElem?_append_right (Nat.le_refl _), Nat.sub_self] at e2
      refine ⟨on.length, (h1 : Int), (h0 : Int), by rw [e1, ht], by rw [e2]; rfl, ?_, by omega⟩
      rw [List.getElem?_eq_getElem hlo, hh0]
theorem pre_nil (H : List Hc) (L : List Dem) : Pre H L [] := ⟨by simp, fun k c _ => .inl (by rw [List.zip_nil_right]; rfl)⟩
theorem pre_place {H : List Hc} {L : List Dem} {q : List Int} (h1 : 1 ≤ H.length) (h2 : H.length ≤ 6) (h3 : L.length ≤ 16) (hl : q.length = L.length) (hp : Pre H L q) : place H L q = true := place_iff.2 ⟨⟨h1, h2, h3, hl⟩, hp.1, hp.2⟩
/-- What Assign finds is valid. -/
theorem assign_sound {H : List Hc} {L : List Dem} {q : List Int} (h : assign H L = some q) : place H L q = true ∧ q.length = L.length := by
  unfold assign at h
  split at h
  · cases h
  · rename_i hh
    have hl := asg_len L.length [] q (by simp) h
    obtain ⟨hp, _⟩ := asg_sound (by omega) L.length [] q (by simp) (pre_nil H L) h
    exact ⟨pre_place (by omega) (by omega) (by omega) hl hp, hl⟩
/-- Where there is a valid placement, Assign finds one that is not behind it. -/
theorem assign_complete {H : List Hc} {L : List Dem} {o : List Int} (hL : L.length ≤ 8) (ho : place H L o = true) : ∃ q, assign H L = some q ∧ lexle q o := by
  obtain ⟨hb, h1, h2⟩ := place_iff.1 ho
  have := asg_complete (by omega) hb.2.2.2 ⟨h1, h2⟩ L.length [] (by simp) (by simp)
  rw [assign_in (by omega)]
  exact this
end Ba
end Go.Proofs.Ytmmjofdienoobaa
