/-
  Contracts: View, New (chapter 41), of the program.
-/
import Derived.Test.YtncgihbnfmpdbaaSnK
set_option linter.unusedVariables false
set_option linter.unusedSimpArgs false
set_option maxRecDepth 100000
namespace Go.Proofs.Ytncgihbnfmpdbaa
open Go.RowKit
namespace Sn
theorem info_st : (Try.prog.info? 9).map (fun i => (i.zero, i.size, i.bytes)) = some (some (.string ⟨#[]⟩), 1, 16) := by kernel_rfl
def viewTo (T : Tr) (n : Int) (k : Nat) : List ByteArray := (List.range k).map fun b : Nat => sees T n (b : Int)
theorem viewTo_next (T : Tr) (n : Int) (k : Nat) : viewTo T n (k + 1) = viewTo T n k ++ [sees T n k] := by unfold viewTo; rw [List.range_succ, List.map_append]; rfl
theorem viewTo_len (T : Tr) (n : Int) (k : Nat) : (viewTo T n k).length = k := by unfold viewTo; simp
/-- What View hands back. -/
def VwTo (T : Tr) (n : Int) (w : World) (e : Ending) (w' : World) : Prop :=
  ∃ A m cap L, e = .returned (.tuple #[.slice A m cap, .bool (hasB T n)]) ∧ Own 9 1 stC w.heap.size w' (.slice A m cap) L ∧ (hasB T n = true → L = viewTo T n T.base.length) ∧ Held w w'
theorem VwTo.no {T : Tr} {n : Int} {w w' : World} (h : hasB T n = false) (q : Held w w') : VwTo T n w (.returned (.tuple #[.slice none 0 0, .bool false])) w' := ⟨none, 0, 0, [], by rw [h], Own.nil w', fun e => (by rw [h] at e; cases e), q⟩
theorem VwTo.yes {T : Tr} {n : Int} {w w' : World} {A : Option Addr} {m cap : Nat} (h : hasB T n = true) (o : Own 9 1 stC w.heap.size w' (.slice A m cap) (viewTo T n T.base.length)) (q : Held w w') : VwTo T n w (.returned (.tuple #[.slice A m cap, .bool true])) w' := ⟨A, m, cap, _, by rw [h], o, fun _ => rfl, q⟩
set_option maxHeartbeats 2000000 in
theorem view_any (Ab : Option Addr) (nb cb : Nat) (An : Option Addr) (nn cn : Nat) (T : Tr) (n : Int) (w : World) (h : TrR w Ab nb An nn T) (hv : Ok T) :
    Calls Try.prog 15 #[.agg #[.slice Ab nb cb, .slice An nn cn], .int .i64 n] w (VwTo T n w) := by
  have M0 := Lib.hid ((Mem.start w).alloc #[.slice Ab nb cb, .slice An nn cn] 27)
  have HHA := Lib.hid (fun w' (q : Held w w') => has_any Ab nb cb An nn cn T n w' (h.held q) hv)
  have hnn := h.nn
  have hbl := h.bs.1
  have hb2 := hv.base2
  rw [hbl] at hb2
  obtain ⟨hb, hhb⟩ : ∃ q, hasB T n = q := ⟨_, rfl⟩
  have HP := Lib.hid hhb
  rw [hhb] at HHA
  cases hb
  · clear h hv hhb
    go_enter Try.func15, Try.ntmps15
    go_wp2_with (go_at_call 25; refine (HHA.out _ M0.out.held).mono ?_; rintro e w1 ⟨rfl, h1⟩; have M1 := Lib.hid (M0.out.keep h1); obtain ⟨⟨u0, u1⟩, _, ult⟩ := M1.out.box2 0 rfl)
    go_ret2
    exact VwTo.no HP.out M1.out.held
  · have hr := hasB_range hhb
    rw [hnn] at hr
    have hdn := ok_dl hv
    have HSE := Lib.hid (fun k (hk : k < nb) w' (q : Held w w') => see_any Ab nb cb An nn cn T n k w' (h.held q) hv hr.1 hr.2 hk (fun i x hx => Int.le_trans (hdn i x hx) (by decide)))
    have HBL := Lib.hid hbl
    clear h hv hhb hdn hr
    go_enter Try.func15, Try.ntmps15
    go_wp2_with (go_at_call 25; refine (HHA.out _ M0.out.held).mono ?_; rintro e w1 ⟨rfl, h1⟩; have M1 := Lib.hid (M0.out.keep h1); obtain ⟨⟨u0, u1⟩, _, ult⟩ := M1.out.box2 0 rfl)
    have M2 := Lib.hid (M1.out.nilRow (e := 9) (s := 1) (f := stC))
    clear M1 M0 h1 u0 u1 ult
    go_loopw [6, 15] (fun v i wr => ∃ (k : Nat) (A : Option Addr) (cap : Nat), i = .int .i64 k ∧ k ≤ nb ∧ v = .slice A k cap ∧ Mem w wr [.box w.heap.size #[.slice Ab nb cb, .slice An nn cn] 27, .row 9 1 stC w.heap.size (.slice A k cap) (viewTo T n k)]) (fun _ i _ => nb - (intOf i).toNat)
    case atStart => exact ⟨0, none, 0, rfl, Nat.zero_le _, rfl, M2.out⟩
    case round =>
      obtain ⟨k, A, cap, rfl, hk, rfl, M⟩ := hrel
      have M3 := Lib.hid M
      clear M M2
      obtain ⟨⟨u0, u1⟩, _, ult⟩ := M3.out.box2 0 rfl
      by_cases hlt : (k : Int) < nb
      · have HSK := Lib.hid (HSE.out k (by omega))
        have HNX := Lib.hid (viewTo_next T n k)
        have HLN := Lib.hid (viewTo_len T n k)
        obtain ⟨s, hs⟩ : ∃ s, sees T n k = s := ⟨_, rfl⟩
        rw [hs] at HSK HNX
        clear hs HSE
        go_wp2_with (first | (go_at_call 26; refine (HSK.out _ M3.out.held).mono ?_; rintro e w4 ⟨rfl, h4⟩; have M4 := Lib.hid (M3.out.keep h4); clear u0 u1 ult; obtain ⟨⟨u0, u1⟩, _, ult⟩ := M4.out.box2 0 rfl) | (at_builtin; refine Mem.wp_app (M4.out.skip _) 1 rfl rfl _ _ _ rfl _ 16 Try.underlying24 info_st rfl (by decide) stC_len stC_one s ⟨w4.heap.size, 0, none⟩ 1 rfl rfl (cells_new _ (by simp) _ _) k HLN.out (by omega) (by decide) ?_; intro g5 cp5 w5 M5; have M6 := Lib.hid M5; clear M5))
        go_roundw
        case rel => exact ⟨k + 1, _, _, by go_num, by omega, rfl, by rw [HNX.out]; exact M6.out⟩
        case measure => (simp [intOf]) <;> omega
      · obtain rfl : nb = k := by omega
        rw [← HBL.out] at M3
        go_wp2
        go_ret2
        exact VwTo.yes HP.out (by rw [← HBL.out]; exact M3.out.row 1 rfl) M3.out.held
theorem ok_new {L : List ByteArray} (h1 : 1 ≤ L.length) (h2 : L.length ≤ 64) (h3 : ∀ s ∈ L, s.size = 128) : Ok ⟨L, []⟩ := ⟨h1, h2, h3, Nat.zero_le _, fun i x hx => by simp at hx⟩
/-- What New hands back. -/
def RetB (nb : Nat) (nn : Nat) (T : Tr) (w : World) (e : Ending) (w' : World) : Prop := ∃ Ab cb An cn R, e = .returned (.tuple #[.agg #[.slice Ab nb cb, .slice An nn cn], .bool true]) ∧ TrM w w' Ab nb cb An nn cn T R
set_option maxHeartbeats 2000000 in
theorem new_any (A : Option Addr) (n cap : Nat) (L : List ByteArray) (w : World) (h : Sl 1 stC w A n L) (hnil : A = none → n = 0) (hv : Ok ⟨L, []⟩) :
    Calls Try.prog 7 #[.slice A n cap] w (RetB n 0 ⟨L, []⟩ w) := by
  have hb2 := hv.base2
  have hl := h.1
  simp only at hb2
  have HC := Lib.hid (fun w' (q : Held w w') => SlcSt.clone_any stC_len stC_one A n cap L w' (h.held q) hnil (by omega))
  have M0 := Lib.hid ((Mem.start w).alloc #[.slice none 0 0, .slice none 0 0] 27)
  have HV := Lib.hid hv
  clear h hv
  go_enter Try.func7, Try.ntmps7
  go_wp2_with fail
  refine (HC.out _ M0.out.held).mono ?_
  rintro e w1 ⟨v, rfl, ho, h1⟩
  have M1 := Lib.hid (M0.out.own h1 ho)
  obtain ⟨Ab, cb, rfl, _⟩ := ho.shape
  rw [hl] at M1 ⊢
  have M2 := Lib.hid ((M1.out.nilRow (e := 36) (s := 4) (f := nrC)).allocF rfl #[.slice Ab n cb, .slice none 0 0] 27)
  have HT := Lib.hid (TrM.tr (T := ⟨L, []⟩) (R := []) (W := w) ⟨M2.out.rest.rest, ⟨rfl, fun i r x hr => by cases hr⟩⟩)
  clear h1 ho M1
  go_wp2_with (go_at_call 14; refine (valid_any Ab n cb none 0 0 ⟨L, []⟩ _ HT.out HV.out).mono ?_; rintro e w3 ⟨rfl, h3⟩; have M3 := Lib.hid (M2.out.keep h3); obtain ⟨⟨u0, u1⟩, _, ult⟩ := M3.out.box2 0 rfl; obtain ⟨⟨r0, r1⟩, ⟨rf0, rf1⟩, rlt⟩ := M3.out.box2 1 rfl)
  have M4 := Lib.hid ((M3.out.put 1 rfl 0 (.slice Ab n cb)).put 1 rfl 1 (.slice none 0 0))
  refine bodyPost_ret (Bx.res_ct Try.results7 rfl (TB.load (M4.out.blk 1 rfl) rfl rfl)) rfl ⟨Ab, cb, none, 0, [], rfl, ?_, rfl, fun i r x hr => by cases hr⟩
  exact M4.out.rest.rest
end Sn
end Go.Proofs.Ytncgihbnfmpdbaa
