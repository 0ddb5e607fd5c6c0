/-
  The law SnapReached, walked (chapter 41).
-/
import Derived.Test.YtncgihbnfmpdbaaSnRm
import Derived.Test.YtncgihbnfmpdbaaSnAe
import Derived.Test.YtncgihbnfmpdbaaRw
import Derived.Test.YtncgihbnfmpdbaaTail
set_option linter.unusedVariables false
set_option linter.unusedSimpArgs false
set_option maxRecDepth 100000
namespace Go.Proofs.Ytncgihbnfmpdbaa
open Go.RowKit Go.BigFrame
namespace Sn
theorem nums_in {o : Option Addr} {len cap : Nat} {z : List Int} {W : World} (h : Rw.IsRow .i64 W o len cap z) : ∃ L, Sl 1 inC W o len L ∧ (len : Int) ≤ 9223372036854775807 := by
  obtain ⟨L, hL, hmax, hwf, hcell⟩ := h.view
  refine ⟨L, ⟨hL, hcell.imp id ?_⟩, by unfold maxLen at hmax; omega⟩
  rintro ⟨b, off, e, hb, hc⟩
  refine ⟨b, off, e, hb, fun k hk j v hv => ?_⟩
  rcases j with _ | j
  · simp only [inC, List.getElem?_cons_zero, Option.some.injEq] at hv
    subst hv
    have := hc k hk
    simpa using this
  · simp [inC] at hv
theorem in_at {w a : World} {A : Option Addr} {n : Nat} {L : List Int} (h : Sl 1 inC w A n L) (ha : Held w a) {k : Nat} (hk : k < n) :
    ∃ b off x, A = some ⟨b, off, none⟩ ∧ b < w.heap.size ∧ L[k]? = some x ∧ a.cell? ⟨b, off + k, none⟩ = some (.int .i64 x) := by
  obtain ⟨b, off, x, e, hb, hx, hc⟩ := Sl.at_ h ha hk
  have := hc 0 _ rfl
  rw [Nat.add_zero, Nat.mul_one] at this
  exact ⟨b, off, x, e, hb, hx, this⟩
/-- A valid tree in the law's box. -/
def OkIn (W : World) (tb : Nat) (w : World) : Prop := ∃ T, Ok T ∧ InBox W tb T w
set_option maxHeartbeats 8000000 in
theorem reached_any (A : Option Addr) (n cap : Nat) (L : List Int) (nd bk m : Int) (w : World) (h : Sl 1 inC w A n L) (hn : (n : Int) ≤ 9223372036854775807)
    (hnd : -9223372036854775808 ≤ nd ∧ nd ≤ 9223372036854775807) (hbk : -9223372036854775808 ≤ bk ∧ bk ≤ 9223372036854775807) (hm : -9223372036854775808 ≤ m ∧ m ≤ 9223372036854775807) :
    Calls Try.prog 4 #[.slice A n cap, .int .i64 nd, .int .i64 bk, .int .i64 m] w fun e w' => e = .returned (.bool true) ∧ Held w w' := by
  have HAW := Lib.hid (fun w' => awake_any w')
  have HL := Lib.hid h
  have R1 := Lib.hid (fun w' => Mk.round_any nd 14 hnd.1 hnd.2 (by decide) (by decide) w')
  have R2 := Lib.hid (fun w' => Mk.round_any bk 5 hbk.1 hbk.2 (by decide) (by decide) w')
  have R3 := Lib.hid (fun w' => Mk.round_any m 26 hm.1 hm.2 (by decide) (by decide) w')
  have b1 := Mk.round_bd nd 14 (by decide)
  have b2 := Mk.round_bd bk 5 (by decide)
  have b3 := Mk.round_bd m 26 (by decide)
  have HPG := Lib.hid (fun w' => Pl.page_ex m w' hm)
  have hps := Pl.pageV_size m
  obtain ⟨pg, hpg⟩ : ∃ q, Pl.pageV m = q := ⟨_, rfl⟩
  obtain ⟨r1, hr1⟩ : ∃ q, Mk.round nd 14 = q := ⟨_, rfl⟩
  obtain ⟨r2, hr2⟩ : ∃ q, Mk.round bk 5 = q := ⟨_, rfl⟩
  obtain ⟨r3, hr3⟩ : ∃ q, Mk.round m 26 = q := ⟨_, rfl⟩
  rw [hpg] at HPG hps
  rw [hr1] at R1 b1
  rw [hr2] at R2 b2
  rw [hr3] at R3 b3
  clear hpg hr1 hr2 hr3
  by_cases g1 : (40 : Int) < n
  · go_enter Try.func4, Try.ntmps4
    go_wp2_with (go_at_call 6; refine (HAW.out _).mono ?_; rintro e w1 ⟨rfl, h1⟩)
    go_ret
    exact ⟨rfl, h1⟩
  have hbl := blocksTo_len 1 4
  have HBL := Lib.hid (fun w' => blocks_ex 1 w' (by decide))
  have HO := Lib.hid blocks_ok
  obtain ⟨B, hB⟩ : ∃ q, blocksTo 1 4 = q := ⟨_, rfl⟩
  rw [hB] at HBL hbl HO
  clear hB h
  go_enter Try.func4, Try.ntmps4
  go_wp2_with fail
  refine (HBL.out _).mono ?_
  rintro e w1 ⟨A0, cap0, rfl, hc0, ho0, h1⟩
  rw [hbl] at ho0 hc0 ⊢
  have M1 := Lib.hid ((Mem.start w).own h1 ho0)
  clear h1 ho0
  go_wp2_with fail
  refine (new_any A0 4 cap0 B _ (Own.reads stC_len (M1.out.row 0 rfl)).1 (fun e => own_nil (e ▸ (M1.out.row 0 rfl))) HO.out).mono ?_
  rintro e w2 ⟨Ab, cb, An, cn, R, rfl, hT⟩
  obtain ⟨tb, htb⟩ : ∃ q, w2.heap.size = q := ⟨_, rfl⟩
  have M2 := (TrM.join (Mem.of M1.out.held) hT).allocF htb #[.slice Ab 4 cb, .slice An 0 cn] 27
  have IB : Hid (OkIn w tb (w2.alloc (.cells #[.slice Ab 4 cb, .slice An 0 cn] 27))) := ⟨⟨B, []⟩, HO.out, InBox.mk hT.eq M2⟩
  clear hT M1 M2
  go_wp2_with fail
  clear htb
  go_loopw [11] (fun i wr => ∃ k : Nat, i = .int .i64 k ∧ k ≤ n ∧ OkIn w tb wr) (fun i _ => n - (intOf i).toNat)
  case atStart => exact ⟨0, rfl, Nat.zero_le _, IB.out⟩
  case round =>
    obtain ⟨k, rfl, hk, T, hok, Ab, nb, cb, An, nn, cn, R, he, hM⟩ := hrel
    have HE := Lib.hid he
    have M := Lib.hid hM
    have HOK := Lib.hid hok
    clear he hM hok IB
    obtain ⟨⟨p0, p1⟩, ⟨pf0, pf1⟩, plt⟩ := M.out.box2 0 rfl
    by_cases hlt : (k : Int) < n
    · obtain ⟨b, off, x, rfl, lb, hx, x0⟩ := in_at HL.out M.out.held (k := k) (by omega)
      have hlb := lt_of_cell x0
      simp only at hlb
      have s1 : (0 : Int) ≤ k := by omega
      have HA := Lib.hid (fun w' (q : Held wr w') => act_any Ab nb cb An nn cn T x w' (st_tree (M.out.keep q) HE.out) HOK.out)
      have HOK2 := Lib.hid (act_ok HOK.out (Mk.mix x 71))
      obtain ⟨O, hO⟩ : ∃ q, actR T (Mk.mix x 71) = q := ⟨_, rfl⟩
      rw [hO] at HA HOK2
      clear hO hx
      go_wp2_with fail
      go_region_with (go_at_call 9; refine (HA.out _ (Held.refl _).drew).mono ?_; rintro e w6 ⟨Ab2, nb2, cb2, An2, nn2, cn2, R2, rfl, hT⟩; have HT := Lib.hid hT; have M6 := Lib.hid (next_tree M.out.drew (Held.refl _) hT); clear hT p0 p1 pf0 pf1 plt; obtain ⟨⟨p0, p1⟩, ⟨pf0, pf1⟩, plt⟩ := M6.out.box2 0 rfl)
      all_goals
        go_wp2
        go_roundw
        case rel => exact ⟨k + 1, by go_num, by omega, O.T, HOK2.out, InBox.put M.out.drew (Held.refl _) HT.out⟩
        case measure => (simp [intOf]) <;> omega
    · clear HL
      have HT := Lib.hid (st_tree M.out HE.out)
      have hw1 : IntKind.i64.wrap (r1 - 1) = r1 - 1 := IntWalk.i64_in _ (by omega)
      have hw3 : IntKind.i64.wrap (97 + r3) = 97 + r3 := IntWalk.i64_in _ (by omega)
      go_wp2_with fail
      have hw4 : IntKind.u8.wrap (97 + r3) = 97 + r3 := IntWalk.u8_in _ (by omega)
      have hcv : ∀ w g cap, w.cell? ⟨g, 0, none⟩ = some (.int .u8 (97 + r3)) → (convert 44 9 (.slice (some ⟨g, 0, none⟩) 1 cap)).run Try.prog w = .ok (.string ⟨#[UInt8.ofNat (97 + r3).toNat]⟩) w := fun w g cap => one_back' w g cap (97 + r3) (97 + r3).toNat (by omega) (by omega)
      obtain ⟨nm, hnm⟩ : ∃ q, (⟨#[UInt8.ofNat (97 + r3).toNat]⟩ : ByteArray) = q := ⟨_, rfl⟩
      have hns : nm.size = 1 := by rw [← hnm]; rfl
      rw [hnm] at hcv
      clear hnm
      have HTL := Lib.hid (fun w' (q : Held wr w') => tells_any Ab nb cb An nn cn T (r1 - 1) r2 nm pg w' (HT.out.held q) HOK.out hns hps)
      have HKW := Lib.hid M.out.held
      have HSF : ∀ w' : World, Held wr w' → w'.cell? ⟨tb, 0, none⟩ = some (.slice Ab nb cb) ∧ w'.cell? ⟨tb, 1, none⟩ = some (.slice An nn cn) := fun w' q => ⟨q.cell p0, q.cell p1⟩
      have hS : Held wr wr.drew := (Held.refl wr).drew
      clear p0 p1 pf0 pf1 plt M HT
      refine AnyT.startL (S := (Held wr)) 21 (l := #[false, false, false, false, false, false, false, false, false, false, false, false, false, false, false, false, false, false, false, false, false, false]) (f := 22) (by kernel_rfl) (by kernel_rfl) (by kernel_rfl) ?_
      refine AnyT.takeL (l := #[false, false, false, false, false, false, false, false, false, false, false, false, false, false, false, false, false, false, false, false, false, false]) (l' := #[true, false, false, false, false, false, false, false, false, false, false, false, false, false, false, false, false, false, false, false, false, false]) (i := 0) (d := some 40) (v := ?_) (by kernel_rfl) rfl (by kernel_rfl) (by kernel_rfl) (by kernel_rfl) (fun _ _ _ h => h) (Or.inl ⟨by rfl, ?_⟩) hS ?_
      rotate_left
      · (intro w0 hw0; obtain ⟨k1, k2⟩ := HSF w0 hw0; go_simp; try with_reducible rfl)
      try simp only [Act.put, List.setIfInBounds_toArray, List.set_cons_zero, List.set_cons_succ]
      refine AnyT.takeL (l := #[true, false, false, false, false, false, false, false, false, false, false, false, false, false, false, false, false, false, false, false, false, false]) (l' := #[true, true, false, false, false, false, false, false, false, false, false, false, false, false, false, false, false, false, false, false, false, false]) (i := 1) (d := some 41) (v := ?_) (by kernel_rfl) rfl (by kernel_rfl) (by kernel_rfl) (by kernel_rfl) (fun _ _ _ h => h) (Or.inl ⟨by rfl, ?_⟩) hS ?_
      rotate_left
      · (intro w0 hw0; obtain ⟨k1, k2⟩ := HSF w0 hw0; go_simp; try with_reducible rfl)
      try simp only [Act.put, List.setIfInBounds_toArray, List.set_cons_zero, List.set_cons_succ]
      refine AnyT.takeL (l := #[true, true, false, false, false, false, false, false, false, false, false, false, false, false, false, false, false, false, false, false, false, false]) (l' := #[true, true, true, false, false, false, false, false, false, false, false, false, false, false, false, false, false, false, false, false, false, false]) (i := 2) (d := some 42) (v := ?_) (by kernel_rfl) rfl (by kernel_rfl) (by kernel_rfl) (by kernel_rfl) (fun _ _ _ h => h) (Or.inl ⟨by rfl, ?_⟩) hS ?_
      rotate_left
      · (intro w0 hw0; obtain ⟨k1, k2⟩ := HSF w0 hw0; go_simp; try with_reducible rfl)
      try simp only [Act.put, List.setIfInBounds_toArray, List.set_cons_zero, List.set_cons_succ]
      refine AnyT.takeL (l := #[true, true, true, false, false, false, false, false, false, false, false, false, false, false, false, false, false, false, false, false, false, false]) (l' := #[true, true, true, true, false, false, false, false, false, false, false, false, false, false, false, false, false, false, false, false, false, false]) (i := 3) (d := some 43) (v := ?_) (by kernel_rfl) rfl (by kernel_rfl) (by kernel_rfl) (by kernel_rfl) (fun _ _ _ h => h) (Or.inl ⟨by rfl, ?_⟩) hS ?_
      rotate_left
      · (intro w0 hw0; obtain ⟨k1, k2⟩ := HSF w0 hw0; go_simp; try with_reducible rfl)
      try simp only [Act.put, List.setIfInBounds_toArray, List.set_cons_zero, List.set_cons_succ]
      refine AnyT.takeL (l := #[true, true, true, true, false, false, false, false, false, false, false, false, false, false, false, false, false, false, false, false, false, false]) (l' := #[true, true, true, true, false, false, true, false, false, false, false, false, false, false, false, false, false, false, false, false, false, false]) (i := 6) (d := some 46) (v := ?_) (by kernel_rfl) rfl (by kernel_rfl) (by kernel_rfl) (by kernel_rfl) (fun _ _ _ h => h) (Or.inl ⟨by rfl, ?_⟩) hS ?_
      rotate_left
      · (intro w0 hw0; obtain ⟨k1, k2⟩ := HSF w0 hw0; go_simp; try with_reducible rfl)
      try simp only [Act.put, List.setIfInBounds_toArray, List.set_cons_zero, List.set_cons_succ]
      refine AnyT.takeL (l := #[true, true, true, true, false, false, true, false, false, false, false, false, false, false, false, false, false, false, false, false, false, false]) (l' := #[true, true, true, true, false, false, true, false, true, false, false, false, false, false, false, false, false, false, false, false, false, false]) (i := 8) (d := some 48) (v := ?_) (by kernel_rfl) rfl (by kernel_rfl) (by kernel_rfl) (by kernel_rfl) (fun _ _ _ h => h) (Or.inl ⟨by rfl, ?_⟩) hS ?_
      rotate_left
      · (intro w0 hw0; obtain ⟨k1, k2⟩ := HSF w0 hw0; go_simp; try with_reducible rfl)
      try simp only [Act.put, List.setIfInBounds_toArray, List.set_cons_zero, List.set_cons_succ]
      refine AnyT.takeL (l := #[true, true, true, true, false, false, true, false, true, false, false, false, false, false, false, false, false, false, false, false, false, false]) (l' := #[true, true, true, true, false, false, true, false, true, false, false, false, false, false, true, false, false, false, false, false, false, false]) (i := 14) (d := some 54) (v := ?_) (by kernel_rfl) rfl (by kernel_rfl) (by kernel_rfl) (by kernel_rfl) (fun _ _ _ h => h) (Or.inl ⟨by rfl, ?_⟩) hS ?_
      rotate_left
      · (intro w0 hw0; obtain ⟨k1, k2⟩ := HSF w0 hw0; go_simp; try with_reducible rfl)
      try simp only [Act.put, List.setIfInBounds_toArray, List.set_cons_zero, List.set_cons_succ]
      refine AnyT.onlyL (l := #[true, true, true, true, false, false, true, false, true, false, false, false, false, false, true, false, false, false, false, false, false, false]) (l' := #[true, true, true, true, true, false, true, false, true, false, false, false, false, false, true, false, false, false, false, false, false, false]) (i := 4) (by kernel_rfl) rfl (by kernel_rfl) (fun K hK => ?_)
      go_simp
      refine (R1.out _).mono ?_
      rintro e w4 ⟨rfl, rfl⟩
      refine hK.out _ _ (.inr hS) ?_
      try simp only [Act.put, List.setIfInBounds_toArray, List.set_cons_zero, List.set_cons_succ]
      clear hK K
      refine AnyT.takeL (l := #[true, true, true, true, true, false, true, false, true, false, false, false, false, false, true, false, false, false, false, false, false, false]) (l' := #[true, true, true, true, true, true, true, false, true, false, false, false, false, false, true, false, false, false, false, false, false, false]) (i := 5) (d := some 45) (v := ?_) (by kernel_rfl) rfl (by kernel_rfl) (by kernel_rfl) (by kernel_rfl) (fun _ _ _ h => h) (Or.inl ⟨by rfl, ?_⟩) hS ?_
      rotate_left
      · (intro w0 hw0; obtain ⟨k1, k2⟩ := HSF w0 hw0; go_simp; try with_reducible rfl)
      try simp only [Act.put, List.setIfInBounds_toArray, List.set_cons_zero, List.set_cons_succ]
      refine AnyT.onlyL (l := #[true, true, true, true, true, true, true, false, true, false, false, false, false, false, true, false, false, false, false, false, false, false]) (l' := #[true, true, true, true, true, true, true, true, true, false, false, false, false, false, true, false, false, false, false, false, false, false]) (i := 7) (by kernel_rfl) rfl (by kernel_rfl) (fun K hK => ?_)
      go_simp
      refine (R2.out _).mono ?_
      rintro e w4 ⟨rfl, rfl⟩
      refine hK.out _ _ (.inr hS) ?_
      try simp only [Act.put, List.setIfInBounds_toArray, List.set_cons_zero, List.set_cons_succ]
      clear hK K
      refine AnyT.onlyL (l := #[true, true, true, true, true, true, true, true, true, false, false, false, false, false, true, false, false, false, false, false, false, false]) (l' := #[true, true, true, true, true, true, true, true, true, true, false, false, false, false, true, false, false, false, false, false, false, false]) (i := 9) (by kernel_rfl) rfl (by kernel_rfl) (fun K hK => ?_)
      go_simp
      refine (R3.out _).mono ?_
      rintro e w4 ⟨rfl, rfl⟩
      refine hK.out _ _ (.inr hS) ?_
      try simp only [Act.put, List.setIfInBounds_toArray, List.set_cons_zero, List.set_cons_succ]
      clear hK K
      refine AnyT.takeL (l := #[true, true, true, true, true, true, true, true, true, true, false, false, false, false, true, false, false, false, false, false, false, false]) (l' := #[true, true, true, true, true, true, true, true, true, true, true, false, false, false, true, false, false, false, false, false, false, false]) (i := 10) (d := some 50) (v := ?_) (by kernel_rfl) rfl (by kernel_rfl) (by kernel_rfl) (by kernel_rfl) (fun _ _ _ h => h) (Or.inl ⟨by rfl, ?_⟩) hS ?_
      rotate_left
      · (intro w0 hw0; obtain ⟨k1, k2⟩ := HSF w0 hw0; go_simp; try with_reducible rfl)
      try simp only [Act.put, List.setIfInBounds_toArray, List.set_cons_zero, List.set_cons_succ]
      refine AnyT.takeL (l := #[true, true, true, true, true, true, true, true, true, true, true, false, false, false, true, false, false, false, false, false, false, false]) (l' := #[true, true, true, true, true, true, true, true, true, true, true, true, false, false, true, false, false, false, false, false, false, false]) (i := 11) (d := some 51) (v := ?_) (by kernel_rfl) rfl (by kernel_rfl) (by kernel_rfl) (by kernel_rfl) (fun _ _ _ h => h) (Or.inl ⟨by rfl, ?_⟩) hS ?_
      rotate_left
      · (intro w0 hw0; obtain ⟨k1, k2⟩ := HSF w0 hw0; go_simp; try with_reducible rfl)
      try simp only [Act.put, List.setIfInBounds_toArray, List.set_cons_zero, List.set_cons_succ]
      refine AnyT.twoL (l := #[true, true, true, true, true, true, true, true, true, true, true, true, false, false, true, false, false, false, false, false, false, false]) (li := #[true, true, true, true, true, true, true, true, true, true, true, true, true, false, true, false, false, false, false, false, false, false]) (lj := #[true, true, true, true, true, true, true, true, true, true, true, true, false, false, true, true, false, false, false, false, false, false]) (i := 12) (j := 15) (by kernel_rfl) (by kernel_rfl) rfl rfl (by kernel_rfl) (fun K hK => ?_) (fun K hK => ?_)
      · go_simp
        have hS2 : Held wr (wr.alloc (.cells #[.int .u8 (97 + r3)] 5)).drew ∧ ((wr.alloc (.cells #[.int .u8 (97 + r3)] 5)).drew).cell? ⟨wr.heap.size, 0, none⟩ = some (.int .u8 (97 + r3)) := ⟨((Held.refl wr).alloc (.cells #[.int .u8 (97 + r3)] 5)).drew, cells_new _ (by simp) _ _ 0 _ rfl⟩
        refine hK.out _ _ (.inr hS2.1) ?_
        try simp only [Act.put, List.setIfInBounds_toArray, List.set_cons_zero, List.set_cons_succ]
        clear hK K
        refine AnyT.more (S' := fun w' => Held wr w' ∧ w'.cell? ⟨wr.heap.size, 0, none⟩ = some (.int .u8 (97 + r3))) (fun _ q => q.1) ?_
        have HSF2 : ∀ w' : World, (Held wr w' ∧ w'.cell? ⟨wr.heap.size, 0, none⟩ = some (.int .u8 (97 + r3))) → Held wr w' ∧ (w'.cell? ⟨wr.heap.size, 0, none⟩ = some (.int .u8 (97 + r3)) ∧ ∀ cap, (convert 44 9 (.slice (some ⟨wr.heap.size, 0, none⟩) 1 cap)).run Try.prog w' = .ok (.string nm) w') := fun w' q => ⟨q.1, q.2, fun cap => hcv w' _ cap q.2⟩
        refine AnyT.takeL (l := #[true, true, true, true, true, true, true, true, true, true, true, true, true, false, true, false, false, false, false, false, false, false]) (l' := #[true, true, true, true, true, true, true, true, true, true, true, true, true, true, true, false, false, false, false, false, false, false]) (i := 13) (d := some 53) (v := ?_) (by kernel_rfl) rfl (by kernel_rfl) (by kernel_rfl) (by kernel_rfl) (fun _ _ _ h => h) (Or.inl ⟨by rfl, ?_⟩) hS2 ?_
        rotate_left
        · (intro w0 hw0; obtain ⟨k1, k2, k3⟩ := HSF2 w0 hw0; go_simp; try with_reducible rfl)
        try simp only [Act.put, List.setIfInBounds_toArray, List.set_cons_zero, List.set_cons_succ]
        refine AnyT.onlyL (l := #[true, true, true, true, true, true, true, true, true, true, true, true, true, true, true, false, false, false, false, false, false, false]) (l' := #[true, true, true, true, true, true, true, true, true, true, true, true, true, true, true, true, false, false, false, false, false, false]) (i := 15) (by kernel_rfl) rfl (by kernel_rfl) (fun K hK => ?_)
        go_simp
        refine (HPG.out _).mono ?_
        rintro e w15 ⟨rfl, h15⟩
        have hS2 := And.intro (hS2.1.step h15) (h15.cell hS2.2)
        refine hK.out _ _ (.inr hS2) ?_
        try simp only [Act.put, List.setIfInBounds_toArray, List.set_cons_zero, List.set_cons_succ]
        clear hK K
        refine AnyT.onlyL (l := #[true, true, true, true, true, true, true, true, true, true, true, true, true, true, true, true, false, false, false, false, false, false]) (l' := #[true, true, true, true, true, true, true, true, true, true, true, true, true, true, true, true, true, false, false, false, false, false]) (i := 16) (by kernel_rfl) rfl (by kernel_rfl) (fun K hK => ?_)
        go_simp
        refine (HTL.out _ hS2.1).mono ?_
        rintro e w16 ⟨rfl, h16⟩
        have hS3 := And.intro (hS2.1.step h16) (h16.cell hS2.2)
        refine hK.out _ _ (.inr hS3) ?_
        try simp only [Act.put, List.setIfInBounds_toArray, List.set_cons_zero, List.set_cons_succ]
        clear hK K
        refine AnyT.takeL (l := #[true, true, true, true, true, true, true, true, true, true, true, true, true, true, true, true, true, false, false, false, false, false]) (l' := #[true, true, true, true, true, true, true, true, true, true, true, true, true, true, true, true, true, true, false, false, false, false]) (i := 17) (d := some 57) (v := ?_) (by kernel_rfl) rfl (by kernel_rfl) (by kernel_rfl) (by kernel_rfl) (fun _ _ _ h => h) (Or.inl ⟨by rfl, ?_⟩) hS3 ?_
        rotate_left
        · (intro w0 hw0; obtain ⟨k1, k2, k3⟩ := HSF2 w0 hw0; go_simp; try with_reducible rfl)
        try simp only [Act.put, List.setIfInBounds_toArray, List.set_cons_zero, List.set_cons_succ]
        refine AnyT.takeL (l := #[true, true, true, true, true, true, true, true, true, true, true, true, true, true, true, true, true, true, false, false, false, false]) (l' := #[true, true, true, true, true, true, true, true, true, true, true, true, true, true, true, true, true, true, true, false, false, false]) (i := 18) (d := some 58) (v := ?_) (by kernel_rfl) rfl (by kernel_rfl) (by kernel_rfl) (by kernel_rfl) (fun _ _ _ h => h) (Or.inl ⟨by rfl, ?_⟩) hS3 ?_
        rotate_left
        · (intro w0 hw0; obtain ⟨k1, k2, k3⟩ := HSF2 w0 hw0; go_simp; try with_reducible rfl)
        try simp only [Act.put, List.setIfInBounds_toArray, List.set_cons_zero, List.set_cons_succ]
        refine AnyT.onlyL (l := #[true, true, true, true, true, true, true, true, true, true, true, true, true, true, true, true, true, true, true, false, false, false]) (l' := #[true, true, true, true, true, true, true, true, true, true, true, true, true, true, true, true, true, true, true, true, false, false]) (i := 19) (by kernel_rfl) rfl (by kernel_rfl) (fun K hK => ?_)
        go_simp
        refine (HAW.out _).mono ?_
        rintro e w17 ⟨rfl, h17⟩
        have hS4 := And.intro (hS3.1.step h17) (h17.cell hS3.2)
        refine hK.out _ _ (.inr hS4) ?_
        try simp only [Act.put, List.setIfInBounds_toArray, List.set_cons_zero, List.set_cons_succ]
        clear hK K
        refine AnyT.takeL (l := #[true, true, true, true, true, true, true, true, true, true, true, true, true, true, true, true, true, true, true, true, false, false]) (l' := #[true, true, true, true, true, true, true, true, true, true, true, true, true, true, true, true, true, true, true, true, true, false]) (i := 20) (d := some 60) (v := ?_) (by kernel_rfl) rfl (by kernel_rfl) (by kernel_rfl) (by kernel_rfl) (fun _ _ _ h => h) (Or.inl ⟨by rfl, ?_⟩) hS4 ?_
        rotate_left
        · (intro w0 hw0; obtain ⟨k1, k2, k3⟩ := HSF2 w0 hw0; go_simp; try with_reducible rfl)
        try simp only [Act.put, List.setIfInBounds_toArray, List.set_cons_zero, List.set_cons_succ]
        refine AnyT.onlyL (l := #[true, true, true, true, true, true, true, true, true, true, true, true, true, true, true, true, true, true, true, true, true, false]) (l' := #[true, true, true, true, true, true, true, true, true, true, true, true, true, true, true, true, true, true, true, true, true, true]) (i := 21) (by kernel_rfl) rfl (by kernel_rfl) (fun K hK => ?_)
        go_simp
        refine hK.out _ _ (.inl rfl) ?_
        refine AnyT.done (by kernel_rfl) ?_ _
        go_wp2
        go_ret
        exact ⟨rfl, HKW.out.step hS4.1⟩
      · go_simp
        refine (HPG.out _).mono ?_
        rintro e w15 ⟨rfl, h15⟩
        have hS1 := hS.step h15
        refine hK.out _ _ (.inr hS1) ?_
        try simp only [Act.put, List.setIfInBounds_toArray, List.set_cons_zero, List.set_cons_succ]
        clear hK K
        refine AnyT.onlyL (l := #[true, true, true, true, true, true, true, true, true, true, true, true, false, false, true, true, false, false, false, false, false, false]) (l' := #[true, true, true, true, true, true, true, true, true, true, true, true, true, false, true, true, false, false, false, false, false, false]) (i := 12) (by kernel_rfl) rfl (by kernel_rfl) (fun K hK => ?_)
        go_simp
        have hS2 : Held wr (w15.alloc (.cells #[.int .u8 (97 + r3)] 5)) ∧ ((w15.alloc (.cells #[.int .u8 (97 + r3)] 5))).cell? ⟨w15.heap.size, 0, none⟩ = some (.int .u8 (97 + r3)) := ⟨(hS1.alloc (.cells #[.int .u8 (97 + r3)] 5)), cells_new _ (by simp) _ _ 0 _ rfl⟩
        refine hK.out _ _ (.inr hS2.1) ?_
        try simp only [Act.put, List.setIfInBounds_toArray, List.set_cons_zero, List.set_cons_succ]
        clear hK K
        refine AnyT.more (S' := fun w' => Held wr w' ∧ w'.cell? ⟨w15.heap.size, 0, none⟩ = some (.int .u8 (97 + r3))) (fun _ q => q.1) ?_
        have HSF2 : ∀ w' : World, (Held wr w' ∧ w'.cell? ⟨w15.heap.size, 0, none⟩ = some (.int .u8 (97 + r3))) → Held wr w' ∧ (w'.cell? ⟨w15.heap.size, 0, none⟩ = some (.int .u8 (97 + r3)) ∧ ∀ cap, (convert 44 9 (.slice (some ⟨w15.heap.size, 0, none⟩) 1 cap)).run Try.prog w' = .ok (.string nm) w') := fun w' q => ⟨q.1, q.2, fun cap => hcv w' _ cap q.2⟩
        refine AnyT.takeL (l := #[true, true, true, true, true, true, true, true, true, true, true, true, true, false, true, true, false, false, false, false, false, false]) (l' := #[true, true, true, true, true, true, true, true, true, true, true, true, true, true, true, true, false, false, false, false, false, false]) (i := 13) (d := some 53) (v := ?_) (by kernel_rfl) rfl (by kernel_rfl) (by kernel_rfl) (by kernel_rfl) (fun _ _ _ h => h) (Or.inl ⟨by rfl, ?_⟩) hS2 ?_
        rotate_left
        · (intro w0 hw0; obtain ⟨k1, k2, k3⟩ := HSF2 w0 hw0; go_simp; try with_reducible rfl)
        try simp only [Act.put, List.setIfInBounds_toArray, List.set_cons_zero, List.set_cons_succ]
        refine AnyT.onlyL (l := #[true, true, true, true, true, true, true, true, true, true, true, true, true, true, true, true, false, false, false, false, false, false]) (l' := #[true, true, true, true, true, true, true, true, true, true, true, true, true, true, true, true, true, false, false, false, false, false]) (i := 16) (by kernel_rfl) rfl (by kernel_rfl) (fun K hK => ?_)
        go_simp
        refine (HTL.out _ hS2.1).mono ?_
        rintro e w16 ⟨rfl, h16⟩
        have hS3 := And.intro (hS2.1.step h16) (h16.cell hS2.2)
        refine hK.out _ _ (.inr hS3) ?_
        try simp only [Act.put, List.setIfInBounds_toArray, List.set_cons_zero, List.set_cons_succ]
        clear hK K
        refine AnyT.takeL (l := #[true, true, true, true, true, true, true, true, true, true, true, true, true, true, true, true, true, false, false, false, false, false]) (l' := #[true, true, true, true, true, true, true, true, true, true, true, true, true, true, true, true, true, true, false, false, false, false]) (i := 17) (d := some 57) (v := ?_) (by kernel_rfl) rfl (by kernel_rfl) (by kernel_rfl) (by kernel_rfl) (fun _ _ _ h => h) (Or.inl ⟨by rfl, ?_⟩) hS3 ?_
        rotate_left
        · (intro w0 hw0; obtain ⟨k1, k2, k3⟩ := HSF2 w0 hw0; go_simp; try with_reducible rfl)
        try simp only [Act.put, List.setIfInBounds_toArray, List.set_cons_zero, List.set_cons_succ]
        refine AnyT.takeL (l := #[true, true, true, true, true, true, true, true, true, true, true, true, true, true, true, true, true, true, false, false, false, false]) (l' := #[true, true, true, true, true, true, true, true, true, true, true, true, true, true, true, true, true, true, true, false, false, false]) (i := 18) (d := some 58) (v := ?_) (by kernel_rfl) rfl (by kernel_rfl) (by kernel_rfl) (by kernel_rfl) (fun _ _ _ h => h) (Or.inl ⟨by rfl, ?_⟩) hS3 ?_
        rotate_left
        · (intro w0 hw0; obtain ⟨k1, k2, k3⟩ := HSF2 w0 hw0; go_simp; try with_reducible rfl)
        try simp only [Act.put, List.setIfInBounds_toArray, List.set_cons_zero, List.set_cons_succ]
        refine AnyT.onlyL (l := #[true, true, true, true, true, true, true, true, true, true, true, true, true, true, true, true, true, true, true, false, false, false]) (l' := #[true, true, true, true, true, true, true, true, true, true, true, true, true, true, true, true, true, true, true, true, false, false]) (i := 19) (by kernel_rfl) rfl (by kernel_rfl) (fun K hK => ?_)
        go_simp
        refine (HAW.out _).mono ?_
        rintro e w17 ⟨rfl, h17⟩
        have hS4 := And.intro (hS3.1.step h17) (h17.cell hS3.2)
        refine hK.out _ _ (.inr hS4) ?_
        try simp only [Act.put, List.setIfInBounds_toArray, List.set_cons_zero, List.set_cons_succ]
        clear hK K
        refine AnyT.takeL (l := #[true, true, true, true, true, true, true, true, true, true, true, true, true, true, true, true, true, true, true, true, false, false]) (l' := #[true, true, true, true, true, true, true, true, true, true, true, true, true, true, true, true, true, true, true, true, true, false]) (i := 20) (d := some 60) (v := ?_) (by kernel_rfl) rfl (by kernel_rfl) (by kernel_rfl) (by kernel_rfl) (fun _ _ _ h => h) (Or.inl ⟨by rfl, ?_⟩) hS4 ?_
        rotate_left
        · (intro w0 hw0; obtain ⟨k1, k2, k3⟩ := HSF2 w0 hw0; go_simp; try with_reducible rfl)
        try simp only [Act.put, List.setIfInBounds_toArray, List.set_cons_zero, List.set_cons_succ]
        refine AnyT.onlyL (l := #[true, true, true, true, true, true, true, true, true, true, true, true, true, true, true, true, true, true, true, true, true, false]) (l' := #[true, true, true, true, true, true, true, true, true, true, true, true, true, true, true, true, true, true, true, true, true, true]) (i := 21) (by kernel_rfl) rfl (by kernel_rfl) (fun K hK => ?_)
        go_simp
        refine hK.out _ _ (.inl rfl) ?_
        refine AnyT.done (by kernel_rfl) ?_ _
        go_wp2
        go_ret
        exact ⟨rfl, HKW.out.step hS4.1⟩
theorem reached_law (o1 : Option Addr) (len1 cap1 : Nat) (z1 : List Int) (nd bk m : Int) (hnd : (Lit.int .i64 nd).wf = true) (hbk : (Lit.int .i64 bk).wf = true) (hm : (Lit.int .i64 m).wf = true) (W : World) (h1 : Rw.IsRow .i64 W o1 len1 cap1 z1) :
    Calls Try.prog 4 #[.slice o1 len1 cap1, .int .i64 nd, .int .i64 bk, .int .i64 m] W fun e w' => e = .returned (.bool true) ∧ Below W.heap.size W w' := by
  obtain ⟨U, u1, u2⟩ := nums_in h1
  exact reached_any o1 len1 cap1 U nd bk m W u1 u2 (Rw.bd_i64 hnd) (Rw.bd_i64 hbk) (Rw.bd_i64 hm)
end Sn
end Go.Proofs.Ytncgihbnfmpdbaa
