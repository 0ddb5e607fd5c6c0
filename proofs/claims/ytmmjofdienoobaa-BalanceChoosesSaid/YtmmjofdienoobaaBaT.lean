/-
  Contracts: Spread (chapter 40), program and reference.
-/
import Derived.Test.YtmmjofdienoobaaBaS
set_option linter.unusedVariables false
set_option linter.unusedSimpArgs false
set_option maxRecDepth 100000
namespace Go.Proofs.Ytmmjofdienoobaa
open Go.RowKit
namespace Ba
open Ad Adm
theorem load_bd (c : Hc) (L : List Dem) : 0 ≤ load c L ∧ load c L ≤ 16000000000 := by
  unfold load
  split
  · rename_i h
    obtain ⟨h1, h2⟩ := h
    unfold valid vh at h1
    simp only [Bool.and_eq_true, decide_eq_true_eq] at h1
    have hm := (units_iff _).1 h1.1.1.1
    have hs := sum_bd L h1.2
    have hl : (L.length : Int) ≤ 16 := by have := h1.1.2; omega
    have hm1 : 1 ≤ c.m := by omega
    refine ⟨Int.ediv_nonneg (by omega) (by omega), ?_⟩
    refine Int.le_trans (Int.ediv_le_self _ (by omega)) ?_
    omega
  · omega
theorem loads_next {H : List Hc} {Z : List (Dem × Int)} {k : Nat} {c : Hc} (h : H[k]? = some c) : loads H Z (k + 1) = loads H Z k ++ (if c.up then [load c (gu Z k)] else []) := by
  rw [loads, h]
theorem loads_len (H : List Hc) (Z : List (Dem × Int)) : ∀ k, (loads H Z k).length ≤ k
  | 0 => Nat.le_refl _
  | k + 1 => by
    have := loads_len H Z k
    rw [loads, List.length_append]
    split
    · split <;> simp <;> omega
    · simp; omega
theorem loads_bd (H : List Hc) (Z : List (Dem × Int)) : ∀ k, ∀ x ∈ loads H Z k, 0 ≤ x ∧ x ≤ 16000000000
  | 0 => by simp [loads]
  | k + 1 => by
    intro x hx
    rw [loads, List.mem_append] at hx
    rcases hx with hx | hx
    · exact loads_bd H Z k x hx
    · split at hx
      · split at hx
        · simp only [List.mem_singleton] at hx
          subst hx; exact load_bd _ _
        · simp at hx
      · simp at hx
theorem fold_max_in : ∀ (l : List Int) (a : Int), l.foldl max a ∈ a :: l
  | [], a => by simp
  | b :: l, a => by
    have h := fold_max_in l (max a b)
    rw [List.foldl_cons]
    rcases List.mem_cons.1 h with h | h
    · rw [h]
      rcases (show max a b = a ∨ max a b = b by omega) with e | e <;> rw [e] <;> simp
    · simp [h]
theorem fold_min_in : ∀ (l : List Int) (a : Int), l.foldl min a ∈ a :: l
  | [], a => by simp
  | b :: l, a => by
    have h := fold_min_in l (min a b)
    rw [List.foldl_cons]
    rcases List.mem_cons.1 h with h | h
    · rw [h]
      rcases (show min a b = a ∨ min a b = b by omega) with e | e <;> rw [e] <;> simp
    · simp [h]
theorem mx_bd {l : List Int} (h : ∀ x ∈ l, 0 ≤ x ∧ x ≤ 16000000000) : 0 ≤ mx l ∧ mx l ≤ 16000000000 := by
  cases l with
  | nil => exact ⟨Int.le_refl 0, show (0 : Int) ≤ 16000000000 by omega⟩
  | cons a l => exact h _ (fold_max_in l a)
theorem mn_bd {l : List Int} (h : ∀ x ∈ l, 0 ≤ x ∧ x ≤ 16000000000) : 0 ≤ mn l ∧ mn l ≤ 16000000000 := by
  cases l with
  | nil => exact ⟨Int.le_refl 0, show (0 : Int) ≤ 16000000000 by omega⟩
  | cons a l => exact h _ (fold_min_in l a)
theorem spread_no {H : List Hc} {L : List Dem} {on : List Int} (h : place H L on = false) : spread H L on = (0, false) := by
  unfold spread; rw [h]; rfl
theorem spread_yes {H : List Hc} {L : List Dem} {on : List Int} (h : place H L on = true) : spread H L on = spreadL (loads H (L.zip on) H.length) := by
  unfold spread; rw [h]; rfl
theorem spreadL_nil : spreadL [] = (0, false) := rfl
theorem spreadL_ne {l : List Int} (h : ¬ l = []) : spreadL l = (mx l - mn l, true) := by unfold spreadL; rw [if_neg h]
theorem ret_ib {p : Int × Bool} {a : Int} {b : Bool} (h : p = (a, b)) : Ending.returned (.tuple #[.int .i64 a, .bool b]) = .returned (.tuple #[.int .i64 p.1, .bool p.2]) := by rw [h]
theorem place_bd {H : List Hc} {L : List Dem} {on : List Int} (h : place H L on = true) : 1 ≤ H.length ∧ H.length ≤ 6 ∧ L.length ≤ 16 ∧ on.length = L.length := by
  unfold place out at h
  simp only [Bool.and_eq_true, Bool.not_eq_true', decide_eq_false_iff_not] at h
  omega
theorem place_at {H : List Hc} {L : List Dem} {on : List Int} (h : place H L on = true) {k : Nat} {x : Int} (hx : on[k]? = some x) : 0 ≤ x ∧ x < H.length := by
  unfold place at h
  simp only [Bool.and_eq_true] at h
  have := List.all_eq_true.1 h.2.1 x (List.mem_of_getElem? hx)
  unfold inH at this
  simpa using this
set_option maxHeartbeats 1000000 in
theorem spread_any (A : Option Addr) (n cap : Nat) (A2 : Option Addr) (n2 cap2 : Nat) (A3 : Option Addr) (n3 cap3 : Nat) (H : List Hc) (L : List Dem) (on : List Int) (w : World)
    (hh : Sl 3 hcC w A n H) (hl : Sl 4 demC w A2 n2 L) (ho : Sl 1 inC w A3 n3 on) :
    Calls Try.prog 23 #[.slice A n cap, .slice A2 n2 cap2, .slice A3 n3 cap3] w fun e w' => e = .returned (.tuple #[.int .i64 (spread H L on).1, .bool (spread H L on).2]) ∧ Held w w' := by
  have HV := Lib.hid (valid_any A n cap A2 n2 cap2 A3 n3 cap3 H L on w hh hl ho)
  have hh1 := hh.1
  have hl1 := hl.1
  have ho1 := ho.1
  have HH := Lib.hid hh
  have HL := Lib.hid hl
  have HO := Lib.hid ho
  clear hh hl ho
  obtain ⟨p, hp⟩ : ∃ p, place H L on = p := ⟨_, rfl⟩
  rw [hp] at HV
  cases p
  · have HP := Lib.hid (spread_no hp)
    clear hp
    go_enter Try.func23, Try.ntmps23
    go_wp2_with (go_at_call 30; refine HV.out.mono ?_; rintro e w1 ⟨rfl, h1⟩)
    go_ret2
    exact ⟨ret_ib HP.out, h1⟩
  · have HP := Lib.hid (spread_yes hp)
    have hbd := place_bd hp
    rw [hh1, hl1, ho1] at hbd
    rw [hh1] at HP
    have hb1 : (n : Int) ≤ 6 := by omega
    have hb2 : (n2 : Int) ≤ 16 := by omega
    obtain rfl : n3 = n2 := by omega
    have HLL := Lib.hid hl1
    clear hp hh1 ho1 hbd hl1
    go_enter Try.func23, Try.ntmps23
    go_wp2_with (go_at_call 30; refine HV.out.mono ?_; rintro e w1 ⟨rfl, h1⟩)
    go_loopw [8, 18] (fun v i wr => ∃ k : Nat, i = .int .i64 k ∧ k ≤ n ∧ Mem w wr [.row 3 1 inC w.heap.size v (loads H (L.zip on) k)]) (fun _ i _ => n - (intOf i).toNat)
    case atStart => exact ⟨0, rfl, Nat.zero_le _, (Mem.of h1).nilRow⟩
    case round =>
      obtain ⟨k, rfl, hk, M⟩ := hrel
      have M1 := Lib.hid M
      clear M h1 HV
      by_cases hlt : (k : Int) < n
      · obtain ⟨b, off, c, rfl, lb, hc, x0, x1, x2⟩ := Sl.at3 HH.out M1.out.held (k := k) (by omega)
        have HLN := Lib.hid (loads_next (Z := L.zip on) hc)
        have hlb := lt_of_cell x0
        simp only at hlb
        obtain ⟨m, cc, up⟩ := c
        simp only at x0 x1 x2
        have M2 := Lib.hid (M1.out.alloc #[.int .i64 m, .int .i64 cc, .bool up] 47)
        have hll := loads_len H (L.zip on) k
        clear hc
        cases up
        · have HL2 : Hid (loads H (L.zip on) (k + 1) = loads H (L.zip on) k) := show _ = _ by rw [HLN.out]; simp
          go_wp2
          go_roundw
          case rel => exact ⟨k + 1, by go_num, by omega, by rw [HL2.out]; exact M2.out.take 1⟩
          case measure => (simp [intOf]) <;> omega
        · have HG := Lib.hid (fun w' (q : Held wr w') => guests_any A2 n3 cap2 A3 n3 cap3 L on k w' (HL.out.held (M1.out.held.step q)) (HO.out.held (M1.out.held.step q)) (by omega) (by omega))
          obtain ⟨G, hG⟩ : ∃ G, gu (L.zip on) k = G := ⟨_, rfl⟩
          rw [hG] at HG HLN
          obtain ⟨x, hx⟩ : ∃ x, load ⟨m, cc, true⟩ G = x := ⟨_, rfl⟩
          have HLD := Lib.hid (fun A n cap w' (h : Sl 4 demC w' A n G) => load_any m cc true A n cap G w' h)
          rw [hx] at HLD HLN
          have HL2 : Hid (loads H (L.zip on) (k + 1) = loads H (L.zip on) k ++ [x]) := show _ = _ by rw [HLN.out]; simp
          obtain ⟨l, hl⟩ : ∃ l, loads H (L.zip on) k = l := ⟨_, rfl⟩
          rw [hl] at M2 HL2 hll
          obtain ⟨ln, hln⟩ : ∃ ln, l.length = ln := ⟨_, rfl⟩
          rw [hln] at hll
          have HLN2 := Lib.hid hln
          have HC := Lib.hid (fun w' (q : Held (wr.alloc (.cells #[.int .i64 m, .int .i64 cc, .bool true] 47)) w') => And.intro (q.cell (M2.out.box3 1 rfl).1.1) (And.intro (q.cell (M2.out.box3 1 rfl).1.2.1) (q.cell (M2.out.box3 1 rfl).1.2.2)))
          obtain ⟨s0, s1, s2⟩ := HC.out _ (Held.refl _)
          clear hG hx hl hln HLN
          go_wp2
          go_region_held3 (fun w' => w'.cell? ⟨wr.heap.size, 0, none⟩ = some (.int .i64 m) ∧ w'.cell? ⟨wr.heap.size, 1, none⟩ = some (.int .i64 cc) ∧ w'.cell? ⟨wr.heap.size, 2, none⟩ = some (.bool true))
            (first | exact HC.out _ (Held.refl _) | exact HC.out _ (Held.refl _).drew | exact HC.out _ (by assumption) | exact HC.out _ (Held.alloc (by assumption) _) | exact Hid.out (by assumption))
            (first | (go_at_call 35; refine (HG.out _ (Held.step ((Held.refl wr).alloc _) (Held.refl _).drew)).mono ?_; rintro e w3 ⟨A4, cap4, rfl, hc4, ho4, h4⟩; have d4 := Lib.hid (Own.reads demC_len ho4).1; have k4 : Held (wr.alloc (.cells #[.int .i64 m, .int .i64 cc, .bool true] 47)) w3 := (Held.refl _).drew.step h4; clear ho4 h4) | (go_at_call 25; refine (HLD.out _ _ _ _ d4.out).mono ?_; rintro e w5 ⟨rfl, h5⟩; have k5 : Held (wr.alloc (.cells #[.int .i64 m, .int .i64 cc, .bool true] 47)) w5 := k4.step h5; have M5 := Lib.hid (M2.out.keep k5)) | (refine Mem.step_apps (M5.out.alloc #[.int .i64 x] 3) 0 rfl (by rfl) _ _ _ (by rfl) _ 8 Try.underlying22 info_int (by rfl) (by decide) inC_len inC_one [x] ⟨w5.heap.size, 0, none⟩ 1 _ (by rfl) (by rfl) rfl (by decide) (cells_new _ (by simp) _ _) ln HLN2.out (by omega) (by decide) ?_; intro g6 cap6 w6 M6; have kz := Lib.hid (M6.box3 1 rfl).1; have M7 := Lib.hid M6; clear M6))
          go_wp2
          go_roundw
          case rel => exact ⟨k + 1, by go_num, by omega, by rw [HL2.out]; exact M7.out.take 1⟩
          case measure => (simp [intOf]) <;> omega
      · obtain rfl : k = n := by omega
        have hbd := loads_bd H (L.zip on) k
        have hll := loads_len H (L.zip on) k
        obtain ⟨l, hl⟩ : ∃ l, loads H (L.zip on) k = l := ⟨_, rfl⟩
        rw [hl] at M1 HP hbd hll
        have hx := mx_bd hbd
        have hn := mn_bd hbd
        obtain ⟨x0, x1⟩ := hx
        obtain ⟨n0, n1⟩ := hn
        obtain ⟨A5, cap5, rfl, _, _⟩ := (M1.out.row 0 rfl).shape
        have HS := Lib.hid (Own.reads inC_len (M1.out.row 0 rfl)).1
        by_cases h0 : l = []
        · have HP2 : Hid (spread H L on = (0, false)) := show _ = _ by rw [HP.out, h0]; rfl
          have hlz : l.length = 0 := by rw [h0]; rfl
          have hz : ((l.length : Int) == 0) = true := by simp [hlz]
          clear hl hbd h0
          go_wp2
          go_ret2
          exact ⟨ret_ib HP2.out, M1.out.held⟩
        · have HP2 : Hid (spread H L on = (mx l - mn l, true)) := show _ = _ by rw [HP.out, spreadL_ne h0]
          have hlz : 1 ≤ l.length := by cases l with | nil => exact absurd rfl h0 | cons => simp
          have hz : ((l.length : Int) == 0) = false := by simp; omega
          have HMX := Lib.hid (max_any A5 l.length cap5 l wr HS.out (by omega) (by omega))
          have HMN := Lib.hid (min_any A5 l.length cap5 l wr HS.out (by omega) (by omega))
          obtain ⟨x, hx⟩ : ∃ x, mx l = x := ⟨_, rfl⟩
          obtain ⟨y, hy⟩ : ∃ y, mn l = y := ⟨_, rfl⟩
          rw [hx] at HMX HP2 x0 x1
          rw [hy] at HMN HP2 n0 n1
          clear hl hbd h0 hx hy
          go_wp2_with (first | (go_at_call 46; refine HMX.out.mono ?_; rintro e w6 ⟨rfl, rfl⟩) | (go_at_call 47; refine HMN.out.mono ?_; rintro e w6 ⟨rfl, rfl⟩))
          go_ret2
          exact ⟨ret_ib HP2.out, M1.out.held⟩
end Ba
end Go.Proofs.Ytmmjofdienoobaa
