/-
  Contracts: see (chapter 41), of the program.
-/
import Derived.Test.YtncgihbnfmpdbaaSnD
set_option linter.unusedVariables false
set_option linter.unusedSimpArgs false
set_option maxRecDepth 100000
namespace Go.Proofs.Ytncgihbnfmpdbaa
open Go.RowKit
namespace Sn
theorem take_snoc' {α : Type} {l : List α} {k : Nat} {x : α} (h : l[k]? = some x) : l.take (k + 1) = l.take k ++ [x] := by
  obtain ⟨hk, rfl⟩ := List.getElem?_eq_some_iff.1 h
  exact List.take_succ_eq_append_getElem hk
theorem look_next {ds : List Dl} {k : Nat} {d : Dl} {b : Int} (h : ds[k]? = some d) (hn : look (ds.take k) b = none) : look (ds.take (k + 1)) b = if d.b = b then some d.s else none := by
  rw [take_snoc' h, look_app, hn]
  simp only
  rw [look_cons]; rfl
theorem look_take {ds : List Dl} {k : Nat} {b : Int} {s : ByteArray} (h : look (ds.take k) b = some s) : look ds b = some s := by
  have e : ds = ds.take k ++ ds.drop k := (List.take_append_drop k ds).symm
  rw [e, look_app, h]
/-- A delta in memory. -/
theorem dl_at {w a : World} {A : Option Addr} {n : Nat} {L : List Dl} (h : Sl 2 dlC w A n L) (ha : Held w a) {k : Nat} (hk : k < n) :
    ∃ b off d, A = some ⟨b, off, none⟩ ∧ b < w.heap.size ∧ L[k]? = some d ∧ a.cell? ⟨b, off + k * 2, none⟩ = some (.int .i64 d.b) ∧ a.cell? ⟨b, off + k * 2 + 1, none⟩ = some (.string d.s) := by
  obtain ⟨b, off, x, e, hb, hx, hc⟩ := Sl.at_ h ha hk
  exact ⟨b, off, x, e, hb, hx, hc 0 _ rfl, hc 1 _ rfl⟩
/-- A block of the base in memory. -/
theorem st_at {w a : World} {A : Option Addr} {n : Nat} {L : List ByteArray} (h : Sl 1 stC w A n L) (ha : Held w a) {k : Nat} (hk : k < n) :
    ∃ b off s, A = some ⟨b, off, none⟩ ∧ b < w.heap.size ∧ L[k]? = some s ∧ a.cell? ⟨b, off + k, none⟩ = some (.string s) := by
  obtain ⟨b, off, x, e, hb, hx, hc⟩ := Sl.at_ h ha hk
  have := hc 0 _ rfl
  rw [Nat.add_zero, Nat.mul_one] at this
  exact ⟨b, off, x, e, hb, hx, this⟩
theorem ret_s {a b : ByteArray} (h : a = b) : Ending.returned (.string a) = .returned (.string b) := by rw [h]
set_option maxHeartbeats 2000000 in
theorem see_any (Ab : Option Addr) (nb cb : Nat) (An : Option Addr) (nn cn : Nat) (T : Tr) (n0 : Int) (blk : Nat) (w : World) (h : TrR w Ab nb An nn T) (hk : Ok T) (hn0 : -1 ≤ n0) (hn1 : n0 < nn) (hb : blk < nb) (hdn : ∀ (i : Nat) (x : Nd), T.nodes[i]? = some x → (x.ds.length : Int) ≤ 1000000) :
    Calls Try.prog 26 #[.agg #[.slice Ab nb cb, .slice An nn cn], .int .i64 n0, .int .i64 blk] w fun e w' => e = .returned (.string (sees T n0 blk)) ∧ Held w w' := by
  have HT := Lib.hid h
  have HK := Lib.hid hk
  have HD := Lib.hid hdn
  have M0 := Lib.hid ((Mem.start w).alloc #[.slice Ab nb cb, .slice An nn cn] 27)
  have hnn := h.nn
  have HNN := Lib.hid hnn
  obtain ⟨S, hS⟩ : ∃ S, sees T n0 blk = S := ⟨_, rfl⟩
  have HS := Lib.hid hS
  rw [hS]
  have H12 := hk.nods
  clear h hk hdn hS
  go_enter Try.func26, Try.ntmps26
  go_wp2
  go_loopw [1] (fun i wr => ∃ n : Int, i = .int .i64 n ∧ -1 ≤ n ∧ n < nn ∧ sees T n blk = S ∧ Mem w wr [.box w.heap.size #[.slice Ab nb cb, .slice An nn cn] 27]) (fun i _ => (intOf i + 1).toNat)
  case atStart => exact ⟨n0, rfl, hn0, hn1, HS.out, M0.out⟩
  case round =>
    obtain ⟨n, rfl, hm1, hlt, hse, M⟩ := hrel
    have M1 := Lib.hid M
    have HSE := Lib.hid hse
    obtain ⟨⟨t0, t1⟩, tf, tlt⟩ := M.box2 0 rfl
    clear tf
    clear M M0 hse
    by_cases hneg : n < 0
    · obtain ⟨b, off, s, rfl, lb, hs, x0⟩ := st_at HT.out.bs M1.out.held (k := blk) hb
      have HP : Hid (S = s) := show _ = _ by
        rw [← HSE.out, sees_base _ _ hneg]
        unfold base
        rw [show ((blk : Int)).toNat = blk by omega, List.getD_eq_getElem?_getD, hs]; rfl
      have k0 : ¬ (blk : Int) < 0 := by omega
      have k1 : (blk : Int) < nb := by omega
      clear hs
      go_wp2
      go_ret
      exact ⟨ret_s HP.out.symm, M1.out.held⟩
    · obtain ⟨i, rfl⟩ := Int.eq_ofNat_of_zero_le (by omega : 0 ≤ n)
      obtain ⟨b, off, x, A, dn, dcap, rfl, lb, hx, x0, x1, x2, x3, hds, _⟩ := HT.out.at_ M1.out.held (k := i) (by omega)
      have hpar := ok_par_lt HK.out hx
      have HAT := Lib.hid (sees_at HK.out hx (blk : Int))
      have hdl := HD.out i x hx
      have HDS := Lib.hid hds
      rw [hds.1] at hdl
      have i0 : ¬ (i : Int) < 0 := by omega
      have X := Lib.hid (And.intro x0 (And.intro x1 (And.intro x2 x3)))
      obtain ⟨wA, hwA⟩ : ∃ wA, wA = wr := ⟨_, rfl⟩
      rw [← hwA] at M1 X t0 t1 tlt x0 x1 x2 x3 ⊢
      clear hwA wr hx hds
      go_wp2
      go_loopw [18] (fun j w2 => ∃ k : Nat, j = .int .i64 k ∧ k ≤ dn ∧ look (x.ds.take k) blk = none ∧ Held wA w2) (fun j _ => dn - (intOf j).toNat)
      case atStart => exact ⟨0, rfl, Nat.zero_le _, rfl, Held.refl _⟩
      case round =>
        obtain ⟨k, rfl, hk, hno, hw⟩ := hrel
        have HW := Lib.hid hw
        have HNO := Lib.hid hno
        clear hw hno x0 x1 x2 x3 t0 t1 tlt
        by_cases hlt2 : (k : Int) < dn
        · obtain ⟨b2, o2, d, rfl, lb2, hd, y0, y1⟩ := dl_at HDS.out (M1.out.held.step HW.out) (k := k) (by omega)
          have HLN := Lib.hid (look_next hd HNO.out)
          have hlb := lt_of_cell y0
          simp only at hlb
          clear hd
          by_cases he : d.b = (blk : Int)
          · have hq : (d.b == (blk : Int)) = true := by simp [he]
            have HP : Hid (S = d.s) := show _ = _ by
              have h1 := HLN.out
              rw [if_pos he] at h1
              rw [← HSE.out, HAT.out, look_take h1]
            clear he
            go_wp2
            go_ret
            exact ⟨ret_s HP.out.symm, (M1.out.held.step HW.out).alloc _⟩
          · have hq : (d.b == (blk : Int)) = false := by simp [he]
            have HN2 : Hid (look (x.ds.take (k + 1)) blk = none) := show _ = _ by rw [HLN.out, if_neg he]
            clear he
            go_wp2
            go_roundw
            case rel => exact ⟨k + 1, by go_num, by omega, HN2.out, HW.out.alloc _⟩
            case measure => (simp [intOf]) <;> omega
        · obtain rfl : dn = k := by omega
          have HP : Hid (sees T x.par blk = S) := show _ = _ by
            have h1 := HNO.out
            rw [List.take_of_length_le (by rw [HDS.out.1]; exact Nat.le_refl _)] at h1
            rw [← HSE.out, HAT.out, h1]
          have z1 := HW.out.cell X.out.2.1
          have M2 := Lib.hid (M1.out.keep HW.out)
          obtain ⟨⟨t0, t1⟩, _, tlt⟩ := M2.out.box2 0 rfl
          go_wp2
          go_roundw
          case rel => exact ⟨x.par, rfl, by omega, by omega, HP.out, M2.out⟩
          case measure => (simp [intOf]) <;> omega
end Sn
end Go.Proofs.Ytncgihbnfmpdbaa
