/-
  Contracts: act of the law package (chapter 41).
-/
import Derived.Test.YtncgihbnfmpdbaaSnAa
set_option linter.unusedVariables false
set_option linter.unusedSimpArgs false
set_option maxRecDepth 100000
namespace Go.Proofs.Ytncgihbnfmpdbaa
open Go.RowKit
namespace Sn
theorem one_back (w : World) (g cap : Nat) (a : Nat) (ha : a < 256) (h0 : w.cell? ⟨g, 0, none⟩ = some (.int .u8 (a : Int))) :
    (convert 44 9 (.slice (some ⟨g, 0, none⟩) 1 cap)).run Try.prog w = .ok (.string ⟨#[UInt8.ofNat a]⟩) w := by
  have := By.bytes_back w ⟨g, 0, none⟩ cap [UInt8.ofNat a] (fun j hj => by
    have : j = 0 := by simpa using hj
    subst this
    rw [By.addr_add, h0]
    simp [UInt8.toNat_ofNat', Nat.mod_eq_of_lt ha])
  exact this
theorem one_back' (w : World) (g cap : Nat) (A : Int) (a : Nat) (hA : A = a) (ha : a < 256) (h0 : w.cell? ⟨g, 0, none⟩ = some (.int .u8 A)) :
    (convert 44 9 (.slice (some ⟨g, 0, none⟩) 1 cap)).run Try.prog w = .ok (.string ⟨#[UInt8.ofNat a]⟩) w := by
  subst hA; exact one_back w g cap a ha h0
theorem res_c5 {fn : Func} {tmps : Array Value} {w : World} {a b k1 k2 k3 k4 k5 : Nat} {t : TypeId} {v : Value} (hr : fn.results = #[.cell a t, .tmp k1, .tmp k2, .tmp k3, .tmp k4, .tmp k5]) (ha : tmps.getD a undef = .pointer (some ⟨b, 0, none⟩)) (hl : (loadVar t ⟨b, 0, none⟩).run Try.prog w = .ok v w) : (results fn tmps).run Try.prog w = .ok (.tuple #[v, tmps.getD k1 undef, tmps.getD k2 undef, tmps.getD k3 undef, tmps.getD k4 undef, tmps.getD k5 undef]) w := by
  unfold results
  rw [hr]
  simp only [List.mapM_toArray, List.mapM_cons, List.mapM_nil, ha, asAddr, pure_bind, Sem.run_bind, Sem.run_map, hl, Result.andThen_ok, Sem.run_pure, map_pure]
  rfl
set_option maxHeartbeats 4000000 in
theorem act_any (Ab : Option Addr) (nb cb : Nat) (An : Option Addr) (nn cn : Nat) (T : Tr) (n : Int) (w : World) (h : TrR w Ab nb An nn T) (hv : Ok T) :
    Calls Try.prog 9 #[.agg #[.slice Ab nb cb, .slice An nn cn], .int .i64 n] w (ActTo (actR T (Mk.mix n 71)) w) := by
  have M0 := Lib.hid (((Mem.start w).alloc #[.slice Ab nb cb, .slice An nn cn] 27).alloc' (b := w.heap.size + 1) (by simp) #[.slice none 0 0, .slice none 0 0] 27)
  have HCR := Lib.hid (fun par nm (h1 : ¬ ByteArray.size nm = 0) (h2 : ByteArray.size nm ≤ 12) w' (q : Held w w') => create_any Ab nb cb An nn cn T par nm w' (h.held q) hv h1 h2)
  have HDL := Lib.hid (fun k w' (q : Held w w') => delete_any Ab nb cb An nn cn T k w' (h.held q) hv)
  have HWR := Lib.hid (fun k b s (hs : ByteArray.size s = 128) w' (q : Held w w') => write_any Ab nb cb An nn cn T k b s w' (h.held q) hv hs)
  have hnn := h.nn
  have hn12 := hv.nods
  rw [hnn] at hn12
  obtain ⟨v, hvv⟩ : ∃ v, Mk.mix n 71 = v := ⟨_, rfl⟩
  have hlt := Mk.mix_lt n 71
  rw [hvv] at hlt ⊢
  have HM := Lib.hid hvv
  have HNN := Lib.hid hnn
  clear h hv hvv hnn
  have HNL := Lib.hid hn12
  by_cases c01 : v % 6 = 0 ∨ v % 6 = 1
  · have hcv : ∀ w g cap, w.cell? ⟨g, 0, none⟩ = some (.int .u8 (97 + (v : Int) / 1024 % 20)) → (convert 44 9 (.slice (some ⟨g, 0, none⟩) 1 cap)).run Try.prog w = .ok (.string (aName v)) w := fun w g cap => one_back' w g cap (97 + (v : Int) / 1024 % 20) (97 + v / 1024 % 20) (by omega) (by omega)
    obtain ⟨nm, hnm⟩ : ∃ q, aName v = q := ⟨_, rfl⟩
    rw [hnm] at hcv
    have hns : nm.size = 1 := by rw [← hnm]; rfl
    have hnz : ¬ nm.size = 0 := by omega
    have hnl : nm.size ≤ 12 := by omega
    have HA : Hid (actR T v = ⟨create T ((v : Int) / 16 % 12 - 1) nm, 0, createN T ((v : Int) / 16 % 12 - 1) nm, 0, ⟨#[]⟩, createE T ((v : Int) / 16 % 12 - 1) nm⟩) := show _ = _ by unfold actR; rw [if_pos c01, hnm]; rfl
    clear hnm hns
    rcases c01 with c0 | c0
    · have hb : ((v : Int) % 6 == 0) = true := by simp; omega
      clear c0
      go_enter Try.func9, Try.ntmps9
      go_wp2_with (first | (go_at_call 24; refine (Mk.mix_any _ _ _).mono ?_; rintro e w' ⟨rfl, rfl⟩; rw [HM.out]) | fail)
      have M1 := Lib.hid (M0.out.skip (.cells #[.int .u8 (97 + (v : Int) / 1024 % 20)] 5))
      refine (HCR.out ((v : Int) / 16 % 12 - 1) nm hnz hnl _ M1.out.held).mono ?_
      rintro e w1 ⟨Ab', cb', An', nn', cn', R, rfl, hT⟩
      have HE := Lib.hid hT.eq
      have M2 := Lib.hid ((TrM.join M1.out hT).allocF rfl #[.slice Ab' nb cb', .slice An' nn' cn'] 27)
      have hTH := hT.held
      clear hT
      obtain ⟨⟨q0, q1⟩, ⟨qf0, qf1⟩, qlt⟩ := M2.out.box2 2 rfl
      have hne : ¬ w1.heap.size = w.heap.size + 1 := fun e => M2.out.ne 0 2 rfl rfl (by decide) e
      go_wp2
      have M3 := Lib.hid ((M2.out.put 2 rfl 0 (.slice Ab' nb cb')).put 2 rfl 1 (.slice An' nn' cn'))
      refine bodyPost_ret (res_c5 Try.results9 rfl (TB.load (M3.out.blk 2 rfl) rfl rfl)) rfl ?_
      rw [HA.out]
      exact ⟨Ab', nb, cb', An', nn', cn', R, rfl, ⟨M3.out.rest.rest.rest, HE.out⟩⟩
    · have hb : ((v : Int) % 6 == 0) = false := by simp; omega
      have hb2 : ((v : Int) % 6 == 1) = true := by simp; omega
      clear c0
      go_enter Try.func9, Try.ntmps9
      go_wp2_with (first | (go_at_call 24; refine (Mk.mix_any _ _ _).mono ?_; rintro e w' ⟨rfl, rfl⟩; rw [HM.out]) | fail)
      have M1 := Lib.hid (M0.out.skip (.cells #[.int .u8 (97 + (v : Int) / 1024 % 20)] 5))
      refine (HCR.out ((v : Int) / 16 % 12 - 1) nm hnz hnl _ M1.out.held).mono ?_
      rintro e w1 ⟨Ab', cb', An', nn', cn', R, rfl, hT⟩
      have HE := Lib.hid hT.eq
      have M2 := Lib.hid ((TrM.join M1.out hT).allocF rfl #[.slice Ab' nb cb', .slice An' nn' cn'] 27)
      have hTH := hT.held
      clear hT
      obtain ⟨⟨q0, q1⟩, ⟨qf0, qf1⟩, qlt⟩ := M2.out.box2 2 rfl
      have hne : ¬ w1.heap.size = w.heap.size + 1 := fun e => M2.out.ne 0 2 rfl rfl (by decide) e
      go_wp2
      have M3 := Lib.hid ((M2.out.put 2 rfl 0 (.slice Ab' nb cb')).put 2 rfl 1 (.slice An' nn' cn'))
      refine bodyPost_ret (res_c5 Try.results9 rfl (TB.load (M3.out.blk 2 rfl) rfl rfl)) rfl ?_
      rw [HA.out]
      exact ⟨Ab', nb, cb', An', nn', cn', R, rfl, ⟨M3.out.rest.rest.rest, HE.out⟩⟩
  · have hb : ((v : Int) % 6 == 0) = false := by simp; omega
    have hb2 : ((v : Int) % 6 == 1) = false := by simp; omega
    by_cases c2 : v % 6 = 2
    · have hb3 : ((v : Int) % 6 == 2) = true := by simp; omega
      have HA : Hid (actR T v = ⟨delete T ((v : Int) / 16 % 12 - 1), 2, (v : Int) / 16 % 12 - 1, 0, ⟨#[]⟩, deleteE T ((v : Int) / 16 % 12 - 1)⟩) := show _ = _ by unfold actR; rw [if_neg c01, if_pos c2]; rfl
      clear c01 c2
      go_enter Try.func9, Try.ntmps9
      go_wp2_with (first | (go_at_call 24; refine (Mk.mix_any _ _ _).mono ?_; rintro e w' ⟨rfl, rfl⟩; rw [HM.out]) | fail)
      have M1 := Lib.hid M0.out
      refine (HDL.out ((v : Int) / 16 % 12 - 1) _ M1.out.held).mono ?_
      rintro e w1 ⟨Ab', cb', An', cn', R, rfl, hT⟩
      have HE := Lib.hid hT.eq
      have M2 := Lib.hid ((TrM.join M1.out hT).allocF rfl #[.slice Ab' nb cb', .slice An' nn cn'] 27)
      have hTH := hT.held
      clear hT
      obtain ⟨⟨q0, q1⟩, ⟨qf0, qf1⟩, qlt⟩ := M2.out.box2 2 rfl
      have hne : ¬ w1.heap.size = w.heap.size + 1 := fun e => M2.out.ne 0 2 rfl rfl (by decide) e
      go_wp2
      have M3 := Lib.hid ((M2.out.put 2 rfl 0 (.slice Ab' nb cb')).put 2 rfl 1 (.slice An' nn cn'))
      refine bodyPost_ret (res_c5 Try.results9 rfl (TB.load (M3.out.blk 2 rfl) rfl rfl)) rfl ?_
      rw [HA.out]
      exact ⟨Ab', nb, cb', An', nn, cn', R, rfl, ⟨M3.out.rest.rest.rest, HE.out⟩⟩
    · have hb3 : ((v : Int) % 6 == 2) = false := by simp; omega
      have HPG := Lib.hid (fun w => Pl.page_ex ((v : Int) / 65536) w (by omega))
      have hps := Pl.pageV_size ((v : Int) / 65536)
      obtain ⟨pg, hpg⟩ : ∃ q, Pl.pageV ((v : Int) / 65536) = q := ⟨_, rfl⟩
      have hda : aData v = pg := hpg
      rw [hpg] at HPG hps
      have hand : bits .and .i64 ((v : Int) / 512) 1 = ((v / 512 % 2 : Nat) : Int) := by
        have := Mk.and_i64 (v / 512) 1 (by omega) (by decide)
        rw [Nat.and_one_is_mod] at this
        rw [← this]; simp
      by_cases c9 : v / 512 % 2 = 0
      · have HA : Hid (actR T v = ⟨write T ((nn : Int) - 1) ((v : Int) / 4096 % 4) pg, 1, (nn : Int) - 1, (v : Int) / 4096 % 4, pg, writeE T ((nn : Int) - 1) ((v : Int) / 4096 % 4)⟩) := show _ = _ by unfold actR aLast; rw [if_neg c01, if_neg c2, if_pos c9, hda, HNN.out]; rfl
        rw [c9] at hand
        clear c01 c2 c9 hpg hda
        go_enter Try.func9, Try.ntmps9
        go_wp2_with (first | (go_at_call 24; refine (Mk.mix_any _ _ _).mono ?_; rintro e w' ⟨rfl, rfl⟩; rw [HM.out]) | (go_at_call 13; refine (HPG.out _).mono ?_; rintro e w9 ⟨rfl, h9⟩; have M1 := Lib.hid (M0.out.keep h9); obtain ⟨⟨r0, r1⟩, _, rlt⟩ := M1.out.box2 0 rfl) | fail)
        refine (HWR.out ((nn : Int) - 1) ((v : Int) / 4096 % 4) pg hps _ M1.out.held).mono ?_
        rintro e w1 ⟨Ab', cb', An', cn', R, rfl, hT⟩
        have HE := Lib.hid hT.eq
        have M2 := Lib.hid ((TrM.join M1.out hT).allocF rfl #[.slice Ab' nb cb', .slice An' nn cn'] 27)
        have hTH := hT.held
        clear hT
        obtain ⟨⟨q0, q1⟩, ⟨qf0, qf1⟩, qlt⟩ := M2.out.box2 2 rfl
        have hne : ¬ w1.heap.size = w.heap.size + 1 := fun e => M2.out.ne 0 2 rfl rfl (by decide) e
        go_wp2
        have M3 := Lib.hid ((M2.out.put 2 rfl 0 (.slice Ab' nb cb')).put 2 rfl 1 (.slice An' nn cn'))
        refine bodyPost_ret (res_c5 Try.results9 rfl (TB.load (M3.out.blk 2 rfl) rfl rfl)) rfl ?_
        rw [HA.out]
        exact ⟨Ab', nb, cb', An', nn, cn', R, rfl, ⟨M3.out.rest.rest.rest, HE.out⟩⟩
      · have HA : Hid (actR T v = ⟨write T ((v : Int) / 16 % 12 - 1) ((v : Int) / 4096 % 4) pg, 1, (v : Int) / 16 % 12 - 1, (v : Int) / 4096 % 4, pg, writeE T ((v : Int) / 16 % 12 - 1) ((v : Int) / 4096 % 4)⟩) := show _ = _ by unfold actR aLast; rw [if_neg c01, if_neg c2, if_neg c9, hda]; rfl
        have hand2 : v / 512 % 2 = 1 := by omega
        rw [hand2] at hand
        clear c01 c2 c9 hpg hda hand2
        go_enter Try.func9, Try.ntmps9
        go_wp2_with (first | (go_at_call 24; refine (Mk.mix_any _ _ _).mono ?_; rintro e w' ⟨rfl, rfl⟩; rw [HM.out]) | (go_at_call 13; refine (HPG.out _).mono ?_; rintro e w9 ⟨rfl, h9⟩; have M1 := Lib.hid (M0.out.keep h9); obtain ⟨⟨r0, r1⟩, _, rlt⟩ := M1.out.box2 0 rfl) | fail)
        refine (HWR.out ((v : Int) / 16 % 12 - 1) ((v : Int) / 4096 % 4) pg hps _ M1.out.held).mono ?_
        rintro e w1 ⟨Ab', cb', An', cn', R, rfl, hT⟩
        have HE := Lib.hid hT.eq
        have M2 := Lib.hid ((TrM.join M1.out hT).allocF rfl #[.slice Ab' nb cb', .slice An' nn cn'] 27)
        have hTH := hT.held
        clear hT
        obtain ⟨⟨q0, q1⟩, ⟨qf0, qf1⟩, qlt⟩ := M2.out.box2 2 rfl
        have hne : ¬ w1.heap.size = w.heap.size + 1 := fun e => M2.out.ne 0 2 rfl rfl (by decide) e
        go_wp2
        have M3 := Lib.hid ((M2.out.put 2 rfl 0 (.slice Ab' nb cb')).put 2 rfl 1 (.slice An' nn cn'))
        refine bodyPost_ret (res_c5 Try.results9 rfl (TB.load (M3.out.blk 2 rfl) rfl rfl)) rfl ?_
        rw [HA.out]
        exact ⟨Ab', nb, cb', An', nn, cn', R, rfl, ⟨M3.out.rest.rest.rest, HE.out⟩⟩
end Sn
end Go.Proofs.Ytncgihbnfmpdbaa
