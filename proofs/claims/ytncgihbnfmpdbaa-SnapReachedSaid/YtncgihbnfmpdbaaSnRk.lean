/-
  Contracts: SameStrings at two equal lists, SameTree of the reference at two trees that read the same (chapter 41).
-/
import Derived.Test.YtncgihbnfmpdbaaSnRa
set_option linter.unusedVariables false
set_option linter.unusedSimpArgs false
set_option maxRecDepth 100000
namespace Go.Proofs.Ytncgihbnfmpdbaa
open Go.RowKit Go.BigFrame
namespace Sn
set_option maxHeartbeats 1000000 in
theorem rsame_any (A : Option Addr) (n cap : Nat) (A2 : Option Addr) (cap2 : Nat) (L : List ByteArray) (w : World) (h1 : Sl 1 stC w A n L) (h2 : Sl 1 stC w A2 n L) (hn : (n : Int) ≤ 1000000) :
    Calls Try.prog 16 #[.slice A n cap, .slice A2 n cap2] w fun e w' => e = .returned (.bool true) ∧ Held w w' := by
  have H1 := Lib.hid h1
  have H2 := Lib.hid h2
  clear h1 h2
  go_enter Try.func16, Try.ntmps16
  go_wp2
  go_loopw [5] (fun i wr => ∃ k : Nat, i = .int .i64 k ∧ k ≤ n ∧ Held w wr) (fun i _ => n - (intOf i).toNat)
  case atStart => exact ⟨0, rfl, Nat.zero_le _, Held.refl _⟩
  case round =>
    obtain ⟨k, rfl, hk, hw⟩ := hrel
    have HW := Lib.hid hw
    clear hw
    by_cases hlt : (k : Int) < n
    · obtain ⟨b, off, x, rfl, lb, hx, x0⟩ := st_at H1.out HW.out (k := k) (by omega)
      obtain ⟨b2, off2, y, rfl, lb2, hy, y0⟩ := st_at H2.out HW.out (k := k) (by omega)
      obtain rfl : x = y := by rw [hx] at hy; injection hy
      have hne : (x.toList == x.toList) = true := by simp
      have k0 : ¬ (k : Int) < 0 := by omega
      clear hx hy
      go_wp2
      go_big_quiet (fail)
      go_wp2
      go_roundw
      case rel => exact ⟨k + 1, by go_num, by omega, HW.out.step ((Held.refl wr).drewN _)⟩
      case measure => (simp [intOf]) <;> omega
    · go_wp2
      go_ret
      exact ⟨rfl, HW.out⟩
theorem run_neq_dl (b : Int) (s : ByteArray) (w : World) : (binOp .neq 38 (.agg #[.int .i64 b, .string s]) (.agg #[.int .i64 b, .string s])).run Try.prog w = .ok (.bool false) w := by
  have hs : Program.stoodInHeld Try.prog 38 = false := by kernel_rfl
  have key : ∀ d, (Op.equalIn (d + 2) 38 (.agg #[.int .i64 b, .string s]) (.agg #[.int .i64 b, .string s])).run Try.prog w = .ok true w := by
    intro d
    unfold Op.equalIn
    simp [run_underlying Try.underlying38, hs, go_sem]
  simp only [binOp]
  simp [Op.equal, Op.maxDepth, key 9998]
set_option maxHeartbeats 4000000 in
theorem rsameTree_any (Ab : Option Addr) (nb cb : Nat) (An : Option Addr) (nn cn : Nat) (Ab2 : Option Addr) (cb2 : Nat) (An2 : Option Addr) (cn2 : Nat) (T : Tr) (w : World) (h1 : TrR w Ab nb An nn T) (h2 : TrR w Ab2 nb An2 nn T) (hv : Ok T) :
    Calls Try.prog 36 #[.agg #[.slice Ab nb cb, .slice An nn cn], .agg #[.slice Ab2 nb cb2, .slice An2 nn cn2]] w fun e w' => e = .returned (.bool true) ∧ Held w w' := by
  have H1 := Lib.hid h1
  have H2 := Lib.hid h2
  have hb2 := hv.base2
  rw [h1.bs.1] at hb2
  have hn12 := hv.nods
  rw [h1.nn] at hn12
  have HV := Lib.hid hv
  have HSS := Lib.hid (fun w' (q : Held w w') => rsame_any Ab nb cb Ab2 cb2 T.base w' (h1.bs.held q) (h2.bs.held q) (by omega))
  have M0 := Lib.hid (((Mem.start w).alloc #[.slice Ab nb cb, .slice An nn cn] 27).alloc' (b := w.heap.size + 1) (by simp) #[.slice Ab2 nb cb2, .slice An2 nn cn2] 27)
  have hnn : ((nn : Int) != nn) = false := by simp
  clear h1 h2 hv
  go_enter Try.func36, Try.ntmps36
  go_wp2_with (first | (go_at_call 16; refine (HSS.out _ M0.out.held).mono ?_; rintro e w2 ⟨rfl, k2⟩; have M2 := Lib.hid (M0.out.keep k2); obtain ⟨⟨a0, a1⟩, ⟨af0, af1⟩, alt⟩ := M2.out.box2 0 rfl; obtain ⟨⟨b0, b1⟩, ⟨bf0, bf1⟩, blt⟩ := M2.out.box2 1 rfl))
  clear hnn
  go_loopw [5] (fun i wr => ∃ k : Nat, i = .int .i64 k ∧ k ≤ nn ∧ Mem w wr [.box w.heap.size #[.slice Ab nb cb, .slice An nn cn] 27, .box (w.heap.size + 1) #[.slice Ab2 nb cb2, .slice An2 nn cn2] 27]) (fun i _ => nn - (intOf i).toNat)
  case atStart => exact ⟨0, rfl, Nat.zero_le _, M2.out⟩
  case round =>
    obtain ⟨k, rfl, hk, hM⟩ := hrel
    have M3 := Lib.hid hM
    clear hM M2 M0 a0 a1 af0 af1 alt b0 b1 bf0 bf1 blt
    obtain ⟨⟨a0, a1⟩, ⟨af0, af1⟩, alt⟩ := M3.out.box2 0 rfl
    obtain ⟨⟨b0, b1⟩, ⟨bf0, bf1⟩, blt⟩ := M3.out.box2 1 rfl
    by_cases hlt : (k : Int) < nn
    · obtain ⟨p, off, x, A, n, cap, rfl, lp, hx, x0, x1, x2, x3, hds, hnil⟩ := H1.out.at_ M3.out.held (k := k) (by omega)
      obtain ⟨p', off', y, A', n', cap', rfl, lp', hy, y0, y1, y2, y3, hds', hnil'⟩ := H2.out.at_ M3.out.held (k := k) (by omega)
      obtain rfl : x = y := by rw [hx] at hy; injection hy
      obtain rfl : n = n' := hds.1.symm.trans hds'.1
      have hdl := ds_len (HV.out.node k x hx).ds
      rw [H1.out.bs.1, hds.1] at hdl
      obtain ⟨nm, par, op, ds⟩ := x
      simp only at x0 x1 x2 x3 y0 y1 y2 y3 hds hds' hdl
      have HD := Lib.hid hds
      have HD' := Lib.hid hds'
      have k0 : ¬ (k : Int) < 0 := by omega
      have lpw : p < wr.heap.size := Nat.lt_of_lt_of_le lp M3.out.held.le
      have lpw' : p' < wr.heap.size := Nat.lt_of_lt_of_le lp' M3.out.held.le
      clear hx hy hds hds' hnil hnil'
      have n1 : ¬ w.heap.size = wr.heap.size := by omega
      have n2 : ¬ w.heap.size = wr.heap.size + 1 := by omega
      have n3 : ¬ w.heap.size + 1 = wr.heap.size := by omega
      have n4 : ¬ w.heap.size + 1 = wr.heap.size + 1 := by omega
      have n5 : ¬ p = wr.heap.size := by omega
      have n6 : ¬ p = wr.heap.size + 1 := by omega
      have n7 : ¬ p' = wr.heap.size := by omega
      have n8 : ¬ p' = wr.heap.size + 1 := by omega
      go_wp2
      go_cut [6, 7] from 31 to 40 (fun v6 v7 wx => ∃ m1 m2, v6 = .pointer (some ⟨m1, 0, none⟩) ∧ v7 = .pointer (some ⟨m2, 0, none⟩) ∧ Mem w wx [.box w.heap.size #[.slice Ab nb cb, .slice (some ⟨p, off, none⟩) nn cn] 27, .box (w.heap.size + 1) #[.slice Ab2 nb cb2, .slice (some ⟨p', off', none⟩) nn cn2] 27, .box m1 #[.string nm, .int .i64 par, .bool op, .slice A n cap] 36, .box m2 #[.string nm, .int .i64 par, .bool op, .slice A' n cap'] 36])
      case first =>
        go_region
        all_goals (go_wp2; go_meet; case rel => first | exact ⟨wr.heap.size, wr.heap.size + 1, rfl, rfl, ((M3.out.alloc #[.string nm, .int .i64 par, .bool op, .slice A n cap] 36).alloc' (b := wr.heap.size + 1) (by simp) #[.string nm, .int .i64 par, .bool op, .slice A' n cap'] 36).drew⟩ | exact ⟨wr.heap.size + 1, wr.heap.size, rfl, rfl, (((M3.out.alloc #[.string nm, .int .i64 par, .bool op, .slice A' n cap'] 36).alloc' (b := wr.heap.size + 1) (by simp) #[.string nm, .int .i64 par, .bool op, .slice A n cap] 36).drew).pick [0, 1, 3, 2] (by decide) rfl⟩)
      case rest =>
        obtain ⟨m1, m2, rfl, rfl, hM⟩ := hcut
        have M4 := Lib.hid hM
        clear hM x0 x1 x2 x3 y0 y1 y2 y3 a0 a1 af0 af1 alt b0 b1 bf0 bf1 blt n1 n2 n3 n4 n5 n6 n7 n8 lpw lpw' M3
        obtain ⟨⟨a0, a1⟩, ⟨af0, af1⟩, alt⟩ := M4.out.box2 0 rfl
        obtain ⟨⟨b0, b1⟩, ⟨bf0, bf1⟩, blt⟩ := M4.out.box2 1 rfl
        obtain ⟨⟨c0, c1, c2, c3⟩, ⟨cf0, cf1, cf2, cf3⟩, clt⟩ := M4.out.box4 2 rfl
        obtain ⟨⟨d0, d1, d2, d3⟩, ⟨df0, df1, df2, df3⟩, dlt⟩ := M4.out.box4 3 rfl
        have e1 : (nm.toList != nm.toList) = false := by simp
        have e2 : (par != par) = false := by simp
        have e3 : (op != op) = false := by simp
        have e4 : ((n : Int) != n) = false := by simp
        go_wp2
        clear e1 e2 e3 e4 c0 c1 c2 cf0 cf1 cf2 cf3 clt d0 d1 d2 df0 df1 df2 df3 dlt c3 d3 a0 a1 af0 af1 alt b0 b1 bf0 bf1 blt
        go_loopw [8] (fun i wx => ∃ j : Nat, i = .int .i64 j ∧ j ≤ n ∧ Mem w wx [.box w.heap.size #[.slice Ab nb cb, .slice (some ⟨p, off, none⟩) nn cn] 27, .box (w.heap.size + 1) #[.slice Ab2 nb cb2, .slice (some ⟨p', off', none⟩) nn cn2] 27, .box m1 #[.string nm, .int .i64 par, .bool op, .slice A n cap] 36, .box m2 #[.string nm, .int .i64 par, .bool op, .slice A' n cap'] 36]) (fun i _ => n - (intOf i).toNat)
        case atStart => exact ⟨0, rfl, Nat.zero_le _, M4.out⟩
        case round =>
          obtain ⟨j, rfl, hj, hM⟩ := hrel
          have M5 := Lib.hid hM
          clear hM M4
          obtain ⟨⟨c0, c1, c2, c3⟩, ⟨cf0, cf1, cf2, cf3⟩, clt⟩ := M5.out.box4 2 rfl
          obtain ⟨⟨d0, d1, d2, d3⟩, ⟨df0, df1, df2, df3⟩, dlt⟩ := M5.out.box4 3 rfl
          clear cf0 cf1 cf2 cf3 clt df0 df1 df2 df3 dlt c0 c1 c2 d0 d1 d2
          by_cases hlt2 : (j : Int) < n
          · obtain ⟨q1, o1, x, rfl, _, hx, hc⟩ := HD.out.at_ M5.out.held (k := j) (by omega)
            have x0 := hc 0 _ rfl
            have x1 := hc 1 _ rfl
            rw [Nat.add_zero] at x0
            obtain ⟨q2, o2, y, rfl, _, hy, hd⟩ := HD'.out.at_ M5.out.held (k := j) (by omega)
            have y0 := hd 0 _ rfl
            have y1 := hd 1 _ rfl
            rw [Nat.add_zero] at y0
            obtain rfl : x = y := by rw [hx] at hy; injection hy
            have hne := run_neq_dl x.b x.s
            have j0 : ¬ (j : Int) < 0 := by omega
            clear hc hd hx hy
            go_wp2
            go_big_quiet (fail)
            go_wp2
            go_roundw
            case rel => exact ⟨j + 1, by go_num, by omega, M5.out.keep ((Held.refl _).drewN _)⟩
            case measure => (simp [intOf]) <;> omega
          · go_wp2
            go_roundw
            case rel => exact ⟨k + 1, by go_num, by omega, M5.out.take 2⟩
            case measure => (simp [intOf]) <;> omega
    · go_wp2
      go_ret
      exact ⟨rfl, M3.out.held⟩
end Sn
end Go.Proofs.Ytncgihbnfmpdbaa
