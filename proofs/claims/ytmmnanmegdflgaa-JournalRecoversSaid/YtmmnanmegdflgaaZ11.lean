/-
  Contracts: clone of a registry; registries of the call's own (chapter 42).
  Contracts: remove of the program (chapter 42).
  Contracts: setHost of the program (chapter 42).
-/
import Derived.Test.YtmmnanmegdflgaaZ8
import Derived.Test.YtmmnanmegdflgaaZ10
set_option linter.unusedVariables false
set_option linter.unusedSimpArgs false
set_option maxRecDepth 100000
namespace Go.Proofs.Ytmmnanmegdflgaa
open Go.RowKit Go.BigFrame Go.Sort
namespace Jn
open Ad Adm Law39
/-- A registry in memory. -/
structure RegR (w : World) (HA : Option Addr) (hn : Nat) (GA : Option Addr) (gn : Nat) (r : Reg) : Prop where
  hs : Sl 3 capC w HA hn r.hs
  gs : Sl 7 plC w GA gn r.gs
theorem RegR.held {w a : World} {HA : Option Addr} {hn : Nat} {GA : Option Addr} {gn : Nat} {r : Reg} (h : RegR w HA hn GA gn r) (k : Held w a) : RegR a HA hn GA gn r := ⟨h.hs.held k, h.gs.held k⟩
/-- A registry of the call's own. -/
abbrev OwnR (W w : World) (v1 v2 : Value) (r : Reg) : Prop := Mem W w [.row 25 3 capC W.heap.size v1 r.hs, .row 75 7 plC W.heap.size v2 r.gs]
def RegTo (r : Reg) (w : World) (e : Ending) (w' : World) : Prop := ∃ v1 v2, e = .returned (.agg #[v1, v2]) ∧ OwnR w w' v1 v2 r
theorem sl_none {α : Type} {s : Nat} {f : α → List Value} {w : World} {A : Option Addr} {n : Nat} {L : List α} (h : Sl s f w A n L) : A = none → n = 0 := by
  rintro rfl
  rcases h.2 with h0 | ⟨b, off, e, _⟩
  · exact h0
  · cases e
theorem reg_load {w : World} {b : Nat} {v1 v2 : Value} (h : w.heap[b]? = some (.cells #[v1, v2] 37 (0, 0))) : (loadVar 37 ⟨b, 0, none⟩).run Try.prog w = .ok (.agg #[v1, v2]) w := by
  have c0 := Bx.cell h 0 rfl
  have c1 := Bx.cell h 1 rfl
  simp [go_sem, c0, c1]
theorem clone_any (HA : Option Addr) (hn hc : Nat) (GA : Option Addr) (gn gc : Nat) (r : Reg) (w : World) (h : RegR w HA hn GA gn r) (hh : (hn : Int) ≤ 1000000) (hg : (gn : Int) ≤ 1000000) :
    Calls Try.prog 34 #[.agg #[.slice HA hn hc, .slice GA gn gc]] w (RegTo r w) := by
  have HR := Lib.hid h
  have HN1 := Lib.hid (sl_none h.hs)
  have HN2 := Lib.hid (sl_none h.gs)
  clear h
  obtain ⟨W2, hW2⟩ : ∃ W2, (w.alloc (.cells #[.slice HA hn hc, .slice GA gn gc] 37)).alloc (.cells #[.slice none 0 0, .slice none 0 0] 37) = W2 := ⟨_, rfl⟩
  have M : Hid (Mem w W2 [.box w.heap.size #[.slice HA hn hc, .slice GA gn gc] 37, .box (w.heap.size + 1) #[.slice none 0 0, .slice none 0 0] 37]) := by
    rw [← hW2]; exact ((Mem.start w).alloc' (b := w.heap.size) rfl _ _).alloc' (b := w.heap.size + 1) (by simp) _ _
  have HF := Lib.hid fun (w' : World) (h : Held W2 w') => And.intro ((M.out.keep h).cell 0 rfl 0 rfl) (And.intro ((M.out.keep h).cell 0 rfl 1 rfl) (And.intro ((M.out.keep h).cell 1 rfl 0 rfl) (And.intro ((M.out.keep h).cell 1 rfl 1 rfl) (And.intro ((M.out.keep h).free 1 rfl 0) ((M.out.keep h).free 1 rfl 1)))))
  have HEQ := Lib.hid hW2
  clear hW2
  go_enter Try.func34, Try.ntmps34
  go_wp2
  rw [HEQ.out]
  obtain ⟨c0, c1, d0, d1, f0, f1⟩ := HF.out W2 (Held.refl _)
  go_region_held3 (fun w' => w'.cell? ⟨w.heap.size, 0, none⟩ = some (.slice HA hn hc) ∧ w'.cell? ⟨w.heap.size, 1, none⟩ = some (.slice GA gn gc) ∧ Held w w')
    ((repeat' refine And.intro ?_ ?_) <;> first | exact c0 | exact c1 | exact M.out.held.drew | exact M.out.held | exact c0' | exact c1' | exact M3.out.held | exact c0'' | exact c1'' | exact M5.out.held | exact ((M5.out.put 1 rfl 0 _).put 1 rfl 1 _).held | exact ((M5.out.put 1 rfl 0 _).put 1 rfl 1 _).cell 0 rfl 0 rfl | exact ((M5.out.put 1 rfl 0 _).put 1 rfl 1 _).cell 0 rfl 1 rfl)
    (first
    | (go_at_call 67; refine (SlcCa.clone_any capC_len capC_one HA hn hc r.hs W2.drew (HR.out.hs.held (M.out.held.drew)) HN1.out (by omega)).mono ?_; rintro e w3 ⟨v1, rfl, o1, h1⟩; obtain ⟨A1, cp1, rfl, _, _⟩ := o1.shape; have k3 : Held W2 w3 := (Held.refl W2).drew.step h1; have M3 := Lib.hid ((M.out.drew).own h1 o1); obtain ⟨c0', c1', d0', d1', f0', f1'⟩ := HF.out w3 k3)
    | (go_at_call 68; refine (SlcPl.clone_any plC_len plC_one GA gn gc r.gs _ (HR.out.gs.held (M3.out.held)) HN2.out (by omega)).mono ?_; rintro e w5 ⟨v2, rfl, o2, h2⟩; obtain ⟨A2, cp2, rfl, _, _⟩ := o2.shape; have k5 := k3.step h2; have M5 := Lib.hid (M3.out.own h2 o2); obtain ⟨c0'', c1'', d0'', d1'', f0'', f1''⟩ := HF.out w5 k5))
  go_wp2
  have MF := (M5.out.put 1 rfl 0 (.slice A1 r.hs.length cp1)).put 1 rfl 1 (.slice A2 r.gs.length cp2)
  refine bodyPost_ret (Bx.res_c Try.results34 rfl (reg_load (MF.blk 1 rfl))) rfl ⟨_, _, rfl, ?_⟩
  exact MF.sel [2, 3] (by decide)
/-- An operation on a registry of the call's own. -/
def StepTo (x : Reg × Int) (W : World) (e : Ending) (w' : World) : Prop := ∃ A1 n1 c1 A2 n2 c2, e = .returned (.tuple #[.agg #[.slice A1 n1 c1, .slice A2 n2 c2], .int .i64 x.2]) ∧ Held W w' ∧ (x.2 = 0 → OwnR W w' (.slice A1 n1 c1) (.slice A2 n2 c2) x.1)
theorem StepTo.err {r : Reg} {c : Int} {W w' : World} {A1 A2 : Option Addr} {n1 c1 n2 c2 : Nat} (hc : c ≠ 0) (h : Held W w') : StepTo (r, c) W (.returned (.tuple #[.agg #[.slice A1 n1 c1, .slice A2 n2 c2], .int .i64 c])) w' := ⟨A1, n1, c1, A2, n2, c2, rfl, h, fun e => absurd e hc⟩
theorem StepTo.ok {r : Reg} {W w' : World} {A1 A2 : Option Addr} {n1 c1 n2 c2 : Nat} (h : OwnR W w' (.slice A1 n1 c1) (.slice A2 n2 c2) r) : StepTo (r, 0) W (.returned (.tuple #[.agg #[.slice A1 n1 c1, .slice A2 n2 c2], .int .i64 0])) w' := ⟨A1, n1, c1, A2, n2, c2, rfl, h.held, fun _ => h⟩
end Jn
end Go.Proofs.Ytmmnanmegdflgaa

set_option linter.unusedVariables false
set_option linter.unusedSimpArgs false
set_option maxRecDepth 100000
namespace Go.Proofs.Ytmmnanmegdflgaa
open Go.RowKit Go.BigFrame Go.Sort
namespace Jn
open Ad Adm Law39
/-- The boxes that a function on a registry and an operation makes. -/
theorem three {W w : World} {v1 v2 : Value} {r : Reg} (h : OwnR W w v1 v2 r) (cs : Array Value) : Mem W (((w.alloc (.cells #[v1, v2] 37)).alloc (.cells cs 27)).alloc (.cells #[.slice none 0 0, .slice none 0 0] 37))
    [.row 25 3 capC W.heap.size v1 r.hs, .row 75 7 plC W.heap.size v2 r.gs, .box w.heap.size #[v1, v2] 37, .box (w.heap.size + 1) cs 27, .box (w.heap.size + 1 + 1) #[.slice none 0 0, .slice none 0 0] 37] :=
  ((h.alloc' (b := w.heap.size) rfl _ _).alloc' (b := w.heap.size + 1) (by simp) _ _).alloc' (b := w.heap.size + 1 + 1) (by simp) _ _
theorem remove_yes {r : Reg} {o : Man} (h : hasG r.gs o.nm = true) : remove r o = (⟨r.hs, r.gs.eraseIdx (pos r.gs o.nm)⟩, 0) := by unfold remove; rw [if_pos h]
theorem remove_no {r : Reg} {o : Man} (h : hasG r.gs o.nm = false) : remove r o = (r, 4202) := by unfold remove; rw [if_neg (by rw [h]; decide)]
set_option maxHeartbeats 1000000 in
theorem remove_any (W : World) (v1 v2 : Value) (r : Reg) (k : Int) (nm : ByteArray) (a b dr dl dc dg cm cc : Int) (up : Bool) (w : World) (h : OwnR W w v1 v2 r) (hs : Srt r.gs) (hg : (r.gs.length : Int) ≤ 1000) :
    Calls Try.prog 37 #[.agg #[v1, v2], .agg #[.int .i64 k, .string nm, .int .i64 a, .int .i64 b, .int .i64 dr, .int .i64 dl, .int .i64 dc, .int .i64 dg, .int .i64 cm, .int .i64 cc, .bool up]] w (StepTo (remove r ⟨k, nm, a, b, ⟨dr, dl, dc, dg⟩, ⟨cm, cc, up⟩⟩) W) := by
  obtain ⟨A1, cp1, rfl, hc1, _⟩ := (h.row 0 rfl).shape
  obtain ⟨A2, cp2, rfl, hc2, _⟩ := (h.row 1 rfl).shape
  have hR2 := Own.reads plC_len (h.row 1 rfl)
  obtain ⟨W2, hW2⟩ : ∃ W2, ((w.alloc (.cells #[.slice A1 r.hs.length cp1, .slice A2 r.gs.length cp2] 37)).alloc (.cells #[.int .i64 k, .string nm, .int .i64 a, .int .i64 b, .int .i64 dr, .int .i64 dl, .int .i64 dc, .int .i64 dg, .int .i64 cm, .int .i64 cc, .bool up] 27)).alloc (.cells #[.slice none 0 0, .slice none 0 0] 37) = W2 := ⟨_, rfl⟩
  have M := Lib.hid (three h #[.int .i64 k, .string nm, .int .i64 a, .int .i64 b, .int .i64 dr, .int .i64 dl, .int .i64 dc, .int .i64 dg, .int .i64 cm, .int .i64 cc, .bool up])
  rw [hW2] at M
  have hfind := find_any A1 r.hs.length cp1 A2 r.gs.length cp2 r.gs nm W2 (Own.reads plC_len (M.out.row 1 rfl)).1 hs hg
  unfold FindTo at hfind
  have HEQ := Lib.hid hW2
  have hpl := pos_le r.gs nm
  cases hh : hasG r.gs nm
  · have HX : Is (remove r ⟨k, nm, a, b, ⟨dr, dl, dc, dg⟩, ⟨cm, cc, up⟩⟩) (r, 4202) := ⟨remove_no hh⟩
    rw [hh] at hfind
    have HFI := Lib.hid hfind
    clear hW2 hfind hh hR2 h
    obtain ⟨⟨c0, c1⟩, _, ltc⟩ := M.out.box2 2 rfl
    have m1 := M.out.cell 3 rfl 1 rfl
    go_enter Try.func37, Try.ntmps37
    go_wp2_with fail
    rw [HEQ.out]
    refine HFI.out.mono ?_
    rintro e w3 ⟨rfl, h3⟩
    have M3 := Lib.hid (M.out.keep h3)
    clear M h3 HFI c0 c1 ltc m1
    obtain ⟨⟨c0, c1⟩, _, ltc⟩ := M3.out.box2 2 rfl
    obtain ⟨⟨d0, d1⟩, ⟨f0, f1⟩, ltd⟩ := M3.out.box2 4 rfl
    go_wp2
    have MF := (M3.out.put 4 rfl 0 (.slice A1 r.hs.length cp1)).put 4 rfl 1 (.slice A2 r.gs.length cp2)
    refine bodyPost_ret (Bx.res_ct Try.results37 rfl (reg_load (MF.blk 4 rfl))) rfl ?_
    rw [HX.out]
    exact StepTo.err (by decide) MF.held
  · obtain ⟨p, hp, hpn, hpp⟩ := has_at hh
    have HX : Is (remove r ⟨k, nm, a, b, ⟨dr, dl, dc, dg⟩, ⟨cm, cc, up⟩⟩) (⟨r.hs, r.gs.eraseIdx (pos r.gs nm)⟩, 0) := ⟨remove_yes hh⟩
    rw [hh] at hfind
    have HFI := Lib.hid hfind
    have HT : Is (r.gs.take (pos r.gs nm) ++ r.gs.drop (pos r.gs nm + 1)) (r.gs.eraseIdx (pos r.gs nm)) := ⟨(List.eraseIdx_eq_take_drop_succ _ _).symm⟩
    clear hW2 hfind hh hR2 h hp hpn
    generalize pos r.gs nm = q at *
    obtain ⟨⟨c0, c1⟩, _, ltc⟩ := M.out.box2 2 rfl
    have m1 := M.out.cell 3 rfl 1 rfl
    go_enter Try.func37, Try.ntmps37
    go_wp2_with fail
    rw [HEQ.out]
    refine HFI.out.mono ?_
    rintro e w3 ⟨rfl, h3⟩
    have M3 := Lib.hid (M.out.keep h3)
    clear M h3 HFI c0 c1 ltc m1
    obtain ⟨⟨c0, c1⟩, ⟨e0, e1⟩, ltc⟩ := M3.out.box2 2 rfl
    have hdel := SlcPl.delete_any plC_len plC_one W.heap.size _ r.gs q (q + 1) w3 (M3.out.row 1 rfl) (by omega) (by omega) (by omega)
    rw [HT.out] at hdel
    generalize hL : r.gs.eraseIdx q = L' at *
    have HDEL := Lib.hid hdel
    clear hdel hL HT
    go_wp2_with fail
    refine HDEL.out.mono ?_
    intro e w4 hg4
    obtain ⟨A3, cp3, rfl, hc3, M4x⟩ := M3.out.gotten 1 rfl hg4
    have M4 := Lib.hid M4x
    clear M3 M4x hg4 HDEL c0 c1 e0 e1 ltc
    obtain ⟨⟨c0, c1⟩, ⟨e0, e1⟩, ltc⟩ := M4.out.box2 2 rfl
    obtain ⟨⟨d0, d1⟩, ⟨f0, f1⟩, ltd⟩ := M4.out.box2 4 rfl
    go_wp2
    have MF := ((M4.out.put 2 rfl 1 (.slice A3 L'.length cp3)).put 4 rfl 0 (.slice A1 r.hs.length cp1)).put 4 rfl 1 (.slice A3 L'.length cp3)
    refine bodyPost_ret (Bx.res_ct Try.results37 rfl (reg_load (MF.blk 4 rfl))) rfl ?_
    rw [HX.out]
    exact StepTo.ok (r := ⟨r.hs, L'⟩) (MF.take 2)
end Jn
end Go.Proofs.Ytmmnanmegdflgaa

set_option linter.unusedVariables false
set_option linter.unusedSimpArgs false
set_option maxRecDepth 100000
namespace Go.Proofs.Ytmmnanmegdflgaa
open Go.RowKit Go.BigFrame Go.Sort
namespace Jn
open Ad Adm Law39
theorem hostBad_yes {r : Reg} {o : Man} (h : o.a < 0 ∨ (r.hs.length : Int) < o.a ∨ vh o.c.m o.c.c = false) : setHost r o = (r, 4200) := by
  have : hostBad r o = true := by
    unfold hostBad
    rcases h with h | h | h
    · rw [decide_eq_true h]; rfl
    · rw [decide_eq_true h]; simp
    · rw [h]; simp
  unfold setHost; rw [if_pos this]
theorem hostBad_no {r : Reg} {o : Man} (h1 : ¬ o.a < 0) (h2 : ¬ (r.hs.length : Int) < o.a) (h3 : vh o.c.m o.c.c = true) : hostBad r o = false := by
  unfold hostBad; rw [decide_eq_false h1, decide_eq_false h2, h3]; rfl
theorem setHost_full {r : Reg} {o : Man} (h : hostBad r o = false) (h6 : o.a = 6) : setHost r o = (r, 4203) := by
  unfold setHost; rw [if_neg (by rw [h]; decide), if_pos h6]
theorem setHost_ok {r : Reg} {o : Man} (h : hostBad r o = false) (h6 : ¬ o.a = 6) {H : List Cap} (hp : putH r.hs o.a o.c = H) {v : Bool} (hv : validR ⟨H, r.gs⟩ = v) : setHost r o = if v = true then (⟨H, r.gs⟩, 0) else (r, 4200) := by
  unfold setHost; rw [if_neg (by rw [h]; decide), if_neg h6, hp, hv]
theorem info_cap : (Try.prog.info? 25).map (fun i => (i.zero, i.size, i.bytes)) = some (some (.agg #[.int .i64 0, .int .i64 0, .bool false]), 3, 24) := by kernel_rfl
set_option maxHeartbeats 2000000 in
theorem setHost_any (W : World) (v1 v2 : Value) (r : Reg) (k : Int) (nm : ByteArray) (a b dr dl dc dg cm cc : Int) (up : Bool) (w : World) (h : OwnR W w v1 v2 r) (hl : (r.hs.length : Int) ≤ 1000) (hg : (r.gs.length : Int) ≤ 1000) (hnm : ∀ p ∈ r.gs, (p.nm.size : Int) ≤ 1000000000) :
    Calls Try.prog 35 #[.agg #[v1, v2], .agg #[.int .i64 k, .string nm, .int .i64 a, .int .i64 b, .int .i64 dr, .int .i64 dl, .int .i64 dc, .int .i64 dg, .int .i64 cm, .int .i64 cc, .bool up]] w (StepTo (setHost r ⟨k, nm, a, b, ⟨dr, dl, dc, dg⟩, ⟨cm, cc, up⟩⟩) W) := by
  obtain ⟨A1, cp1, rfl, hc1, _⟩ := (h.row 0 rfl).shape
  obtain ⟨A2, cp2, rfl, hc2, _⟩ := (h.row 1 rfl).shape
  obtain ⟨W2, hW2⟩ : ∃ W2, ((w.alloc (.cells #[.slice A1 r.hs.length cp1, .slice A2 r.gs.length cp2] 37)).alloc (.cells #[.int .i64 k, .string nm, .int .i64 a, .int .i64 b, .int .i64 dr, .int .i64 dl, .int .i64 dc, .int .i64 dg, .int .i64 cm, .int .i64 cc, .bool up] 27)).alloc (.cells #[.slice none 0 0, .slice none 0 0] 37) = W2 := ⟨_, rfl⟩
  have M := Lib.hid (three h #[.int .i64 k, .string nm, .int .i64 a, .int .i64 b, .int .i64 dr, .int .i64 dl, .int .i64 dc, .int .i64 dg, .int .i64 cm, .int .i64 cc, .bool up])
  rw [hW2] at M
  have HEQ := Lib.hid hW2
  have HV : ∀ w, Hid (Calls Try.prog 48 #[.agg #[.int .i64 cm, .int .i64 cc, .bool up]] w fun e w' => e = .returned (.bool (vh cm cc)) ∧ Held w w') := fun w => vh_any cm cc up w
  obtain ⟨bv, hbv⟩ : ∃ bv, vh cm cc = bv := ⟨_, rfl⟩
  have HBV : Is (vh cm cc) bv := ⟨hbv⟩
  simp only [hbv] at HV
  obtain ⟨n, hn⟩ : ∃ n, r.hs.length = n := ⟨_, rfl⟩
  have HN : Is r.hs.length n := ⟨hn⟩
  rw [hn] at M HEQ hl hc1 ⊢
  clear hW2 hbv h hn
  obtain ⟨⟨c0, c1⟩, ⟨e0, e1⟩, ltc⟩ := M.out.box2 2 rfl
  obtain ⟨⟨m0, m1, m2, m3, m4, m5, m6, m7, m8, m9, m10⟩, _, ltm⟩ := M.out.box11 3 rfl
  obtain ⟨⟨d0, d1⟩, ⟨f0, f1⟩, ltd⟩ := M.out.box2 4 rfl
  by_cases t1 : a < 0
  · have HX : Is (setHost r ⟨k, nm, a, b, ⟨dr, dl, dc, dg⟩, ⟨cm, cc, up⟩⟩) (r, 4200) := ⟨hostBad_yes (.inl t1)⟩
    clear HV
    go_enter Try.func35, Try.ntmps35
    go_upto_region 1 with (fail)
    rw [HEQ.out]
    go_wp2
    have MF := (M.out.put 4 rfl 0 (.slice A1 n cp1)).put 4 rfl 1 (.slice A2 r.gs.length cp2)
    refine bodyPost_ret (Bx.res_ct Try.results35 rfl (reg_load (MF.blk 4 rfl))) rfl ?_
    rw [HX.out]
    exact StepTo.err (by decide) MF.held
  by_cases t2 : (n : Int) < a
  · have HX : Is (setHost r ⟨k, nm, a, b, ⟨dr, dl, dc, dg⟩, ⟨cm, cc, up⟩⟩) (r, 4200) := ⟨hostBad_yes (.inr (.inl (by rw [HN.out]; exact t2)))⟩
    clear HV
    go_enter Try.func35, Try.ntmps35
    go_upto_region 1 with (fail)
    rw [HEQ.out]
    go_wp2
    have MF := (M.out.put 4 rfl 0 (.slice A1 n cp1)).put 4 rfl 1 (.slice A2 r.gs.length cp2)
    refine bodyPost_ret (Bx.res_ct Try.results35 rfl (reg_load (MF.blk 4 rfl))) rfl ?_
    rw [HX.out]
    exact StepTo.err (by decide) MF.held
  cases bv
  · have HX : Is (setHost r ⟨k, nm, a, b, ⟨dr, dl, dc, dg⟩, ⟨cm, cc, up⟩⟩) (r, 4200) := ⟨hostBad_yes (.inr (.inr HBV.out))⟩
    go_enter Try.func35, Try.ntmps35
    go_upto_region 1 with (fail)
    rw [HEQ.out]
    go_wp2_with fail
    (with_reducible refine (HV _).out.mono ?_)
    rintro e w3 ⟨rfl, h3⟩
    have M3 := Lib.hid (M.out.keep h3)
    clear M h3
    clear c0 c1 e0 e1 m0 m1 m2 m3 m4 m5 m6 m7 m8 m9 m10 d0 d1 f0 f1 ltc ltm ltd
    obtain ⟨⟨c0, c1⟩, ⟨e0, e1⟩, ltc⟩ := M3.out.box2 2 rfl
    obtain ⟨⟨m0, m1, m2, m3, m4, m5, m6, m7, m8, m9, m10⟩, _, ltm⟩ := M3.out.box11 3 rfl
    obtain ⟨⟨d0, d1⟩, ⟨f0, f1⟩, ltd⟩ := M3.out.box2 4 rfl
    go_wp2
    have MF := (M3.out.put 4 rfl 0 (.slice A1 n cp1)).put 4 rfl 1 (.slice A2 r.gs.length cp2)
    refine bodyPost_ret (Bx.res_ct Try.results35 rfl (reg_load (MF.blk 4 rfl))) rfl ?_
    rw [HX.out]
    exact StepTo.err (by decide) MF.held
  have HBAD : Is (hostBad r ⟨k, nm, a, b, ⟨dr, dl, dc, dg⟩, ⟨cm, cc, up⟩⟩) false := ⟨hostBad_no t1 (by rw [HN.out]; exact t2) HBV.out⟩
  by_cases t6 : a = 6
  · have HX : Is (setHost r ⟨k, nm, a, b, ⟨dr, dl, dc, dg⟩, ⟨cm, cc, up⟩⟩) (r, 4203) := ⟨setHost_full HBAD.out t6⟩
    have t6b : (a == 6) = true := by simp [t6]
    clear t6
    go_enter Try.func35, Try.ntmps35
    go_upto_region 1 with (fail)
    rw [HEQ.out]
    go_wp2_with fail
    (with_reducible refine (HV _).out.mono ?_)
    rintro e w3 ⟨rfl, h3⟩
    have M3 := Lib.hid (M.out.keep h3)
    clear M h3
    clear c0 c1 e0 e1 m0 m1 m2 m3 m4 m5 m6 m7 m8 m9 m10 d0 d1 f0 f1 ltc ltm ltd
    obtain ⟨⟨c0, c1⟩, ⟨e0, e1⟩, ltc⟩ := M3.out.box2 2 rfl
    obtain ⟨⟨m0, m1, m2, m3, m4, m5, m6, m7, m8, m9, m10⟩, _, ltm⟩ := M3.out.box11 3 rfl
    obtain ⟨⟨d0, d1⟩, ⟨f0, f1⟩, ltd⟩ := M3.out.box2 4 rfl
    go_wp2
    have MF := (M3.out.put 4 rfl 0 (.slice A1 n cp1)).put 4 rfl 1 (.slice A2 r.gs.length cp2)
    refine bodyPost_ret (Bx.res_ct Try.results35 rfl (reg_load (MF.blk 4 rfl))) rfl ?_
    rw [HX.out]
    exact StepTo.err (by decide) MF.held
  have t6b : (a == 6) = false := by simp [t6]
  by_cases t7 : a = n
  · obtain ⟨L', hL'⟩ : ∃ L', r.hs ++ [⟨cm, cc, up⟩] = L' := ⟨_, rfl⟩
    have HPUT : Is (putH r.hs a ⟨cm, cc, up⟩) L' := ⟨by unfold putH; rw [if_pos (by rw [HN.out]; exact t7), hL']⟩
    have HL' := Lib.hid hL'
    have HLL : Is L'.length (n + 1) := ⟨by rw [← hL', List.length_append, HN.out]; rfl⟩
    obtain ⟨v, hv⟩ : ∃ v, validR ⟨L', r.gs⟩ = v := ⟨_, rfl⟩
    have HVR : Is (validR ⟨L', r.gs⟩) v := ⟨hv⟩
    have HX : Is (setHost r ⟨k, nm, a, b, ⟨dr, dl, dc, dg⟩, ⟨cm, cc, up⟩⟩) (if v = true then (⟨L', r.gs⟩, 0) else (r, 4200)) := ⟨setHost_ok HBAD.out t6 HPUT.out hv⟩
    have t7b : (a == (n : Int)) = true := by simp [t7]
    clear t6 t7 hL' hv HPUT
    go_enter Try.func35, Try.ntmps35
    go_upto_region 1 with (fail)
    rw [HEQ.out]
    go_wp2_with fail
    (with_reducible refine (HV _).out.mono ?_)
    rintro e w3 ⟨rfl, h3⟩
    have M3 := Lib.hid (M.out.keep h3)
    clear M h3
    clear c0 c1 e0 e1 m0 m1 m2 m3 m4 m5 m6 m7 m8 m9 m10 d0 d1 f0 f1 ltc ltm ltd
    obtain ⟨⟨c0, c1⟩, ⟨e0, e1⟩, ltc⟩ := M3.out.box2 2 rfl
    obtain ⟨⟨m0, m1, m2, m3, m4, m5, m6, m7, m8, m9, m10⟩, _, ltm⟩ := M3.out.box11 3 rfl
    obtain ⟨⟨d0, d1⟩, ⟨f0, f1⟩, ltd⟩ := M3.out.box2 4 rfl
    go_wp2_with (at_builtin; refine Mem.wp_app (M3.out.skip _) 0 rfl rfl _ _ _ rfl _ 24 Try.underlying34 info_cap rfl (by decide) capC_len capC_one ⟨cm, cc, up⟩ ⟨w3.heap.size, 0, none⟩ 1 rfl rfl (cells_new _ (by simp) _ _) n HN.out (by omega) (by decide) ?_; intro g4 cp4 w4 M4x; rw [HL'.out] at M4x; have M4 := Lib.hid M4x; clear M4x c0 c1 e0 e1 m0 m1 m2 m3 m4 m5 m6 m7 m8 m9 m10 d0 d1 f0 f1 ltc ltm ltd; obtain ⟨⟨c0, c1⟩, ⟨e0, e1⟩, ltc⟩ := M4.out.box2 2 rfl)
    have M5x := M4.out.put 2 rfl 0 (.slice (some ⟨g4, 0, none⟩) (n + 1) cp4)
    obtain ⟨w5, hw5⟩ : ∃ w5, w4.setCell ⟨w.heap.size, 0, none⟩ (.slice (some ⟨g4, 0, none⟩) (n + 1) cp4) = w5 := ⟨_, rfl⟩
    rw [hw5] at M5x ⊢
    have M5 := Lib.hid M5x
    clear M4 M5x hw5 c0 c1 e0 e1 ltc
    have hval := valid_any (some ⟨g4, 0, none⟩) (n + 1) cp4 A2 r.gs.length cp2 L' r.gs w5 (Own.reads capC_len (M5.out.row 0 rfl)).1 (Own.reads plC_len (M5.out.row 1 rfl)).1 (by omega) (by omega) hnm
    rw [HVR.out] at hval
    have HVAL := Lib.hid hval
    clear hval HV
    refine HVAL.out.mono ?_
    rintro e w6 ⟨rfl, h6⟩
    have M6 := Lib.hid (M5.out.keep h6)
    clear M5 h6 HVAL
    obtain ⟨⟨c0, c1⟩, ⟨e0, e1⟩, ltc⟩ := M6.out.box2 2 rfl
    obtain ⟨⟨d0, d1⟩, ⟨f0, f1⟩, ltd⟩ := M6.out.box2 4 rfl
    cases v
    · go_wp2
      have MF := (M6.out.put 4 rfl 0 (.slice (some ⟨g4, 0, none⟩) (n + 1) cp4)).put 4 rfl 1 (.slice A2 r.gs.length cp2)
      refine bodyPost_ret (Bx.res_ct Try.results35 rfl (reg_load (MF.blk 4 rfl))) rfl ?_
      rw [HX.out]
      exact StepTo.err (by decide) MF.held
    · go_wp2
      have MF := (M6.out.put 4 rfl 0 (.slice (some ⟨g4, 0, none⟩) (n + 1) cp4)).put 4 rfl 1 (.slice A2 r.gs.length cp2)
      refine bodyPost_ret (Bx.res_ct Try.results35 rfl (reg_load (MF.blk 4 rfl))) rfl ?_
      rw [HX.out]
      exact StepTo.ok (r := ⟨L', r.gs⟩) (MF.take 2)
  · obtain ⟨ia, rfl⟩ : ∃ ia : Nat, a = ia := ⟨a.toNat, by omega⟩
    have hia : ia < n := by omega
    obtain ⟨L', hL'⟩ : ∃ L', r.hs.set ia ⟨cm, cc, up⟩ = L' := ⟨_, rfl⟩
    have HPUT : Is (putH r.hs (ia : Int) ⟨cm, cc, up⟩) L' := ⟨by unfold putH; rw [if_neg (by rw [HN.out]; exact t7), Int.toNat_natCast, hL']⟩
    have HL' := Lib.hid hL'
    have HLL : Is L'.length n := ⟨by rw [← hL', List.length_set, HN.out]⟩
    obtain ⟨v, hv⟩ : ∃ v, validR ⟨L', r.gs⟩ = v := ⟨_, rfl⟩
    have HVR : Is (validR ⟨L', r.gs⟩) v := ⟨hv⟩
    have HX : Is (setHost r ⟨k, nm, (ia : Int), b, ⟨dr, dl, dc, dg⟩, ⟨cm, cc, up⟩⟩) (if v = true then (⟨L', r.gs⟩, 0) else (r, 4200)) := ⟨setHost_ok HBAD.out t6 HPUT.out hv⟩
    have t7b : ((ia : Int) == (n : Int)) = false := by simp; omega
    have t7c : (ia == n) = false := by simp; omega
    clear t6 t7 hL' hv HPUT
    go_enter Try.func35, Try.ntmps35
    go_upto_region 1 with (fail)
    rw [HEQ.out]
    go_wp2_with fail
    (with_reducible refine (HV _).out.mono ?_)
    rintro e w3 ⟨rfl, h3⟩
    have M3 := Lib.hid (M.out.keep h3)
    clear M h3 c0 c1 e0 e1 m0 m1 m2 m3 m4 m5 m6 m7 m8 m9 m10 d0 d1 f0 f1 ltc ltm ltd
    obtain ⟨⟨c0, c1⟩, ⟨e0, e1⟩, ltc⟩ := M3.out.box2 2 rfl
    obtain ⟨⟨m0, m1, m2, m3, m4, m5, m6, m7, m8, m9, m10⟩, _, ltm⟩ := M3.out.box11 3 rfl
    obtain ⟨g4, x4, hA1, hge, hg4, hx4, hcell⟩ := M3.out.slot 0 rfl capC_len (by decide) (k := ia) (by rw [HN.out]; exact hia)
    subst hA1
    have hne : ¬ g4 = w.heap.size := fun e => M3.out.neRow 2 0 rfl rfl (by decide) (by simp [Value.ownBlock, e])
    have hne2 : ¬ w.heap.size = g4 := fun e => hne e.symm
    have n0 := (hcell 0 (by decide)).1
    have n1 := (hcell 1 (by decide)).1
    have n2 := (hcell 2 (by decide)).1
    have p0 := (hcell 0 (by decide)).2 _ rfl
    have p1 := (hcell 1 (by decide)).2 _ rfl
    have p2 := (hcell 2 (by decide)).2 _ rfl
    rw [Nat.add_zero] at n0 p0
    have hb4 : ia < r.hs.length := by rw [HN.out]; exact hia
    have hx5 : (r.hs.set ia ⟨cm, x4.c, x4.up⟩)[ia]? = some ⟨cm, x4.c, x4.up⟩ := List.getElem?_set_self hb4
    have hx6 : ((r.hs.set ia ⟨cm, x4.c, x4.up⟩).set ia ⟨cm, cc, x4.up⟩)[ia]? = some ⟨cm, cc, x4.up⟩ := List.getElem?_set_self (by rw [List.length_set]; exact hb4)
    have M4a := M3.out.putAt 0 rfl capC_len hx4 (j := 0) (by decide) (.int .i64 cm) ⟨cm, x4.c, x4.up⟩ rfl
    have M4b := M4a.putAt 0 rfl capC_len hx5 (j := 1) (by decide) (.int .i64 cc) ⟨cm, cc, x4.up⟩ rfl
    have M4c := M4b.putAt 0 rfl capC_len hx6 (j := 2) (by decide) (.bool up) ⟨cm, cc, up⟩ rfl
    simp only [List.set_set, HL'.out] at M4c
    dsimp only [List.set] at M4c
    rw [Nat.add_zero] at M4c
    have M5y := Lib.hid M4c
    clear M4a M4b M4c hcell hx4 hx5 hx6 hb4
    go_wp2_with fail
    obtain ⟨w5, hw5⟩ : ∃ w5, ((w3.setCell ⟨g4, ia * 3, none⟩ (.int .i64 cm)).setCell ⟨g4, ia * 3 + 1, none⟩ (.int .i64 cc)).setCell ⟨g4, ia * 3 + 2, none⟩ (.bool up) = w5 := ⟨_, rfl⟩
    have M5x := M5y.out
    rw [hw5] at M5x ⊢
    have M5 := Lib.hid M5x
    clear M3 M5x M5y hw5 c0 c1 e0 e1 ltc n0 n1 n2 p0 p1 p2
    have hval := valid_any (some ⟨g4, 0, none⟩) (n) cp1 A2 r.gs.length cp2 L' r.gs w5 (Own.reads capC_len (M5.out.row 0 rfl)).1 (Own.reads plC_len (M5.out.row 1 rfl)).1 (by omega) (by omega) hnm
    rw [HVR.out] at hval
    have HVAL := Lib.hid hval
    clear hval HV
    refine HVAL.out.mono ?_
    rintro e w6 ⟨rfl, h6⟩
    have M6 := Lib.hid (M5.out.keep h6)
    clear M5 h6 HVAL
    obtain ⟨⟨c0, c1⟩, ⟨e0, e1⟩, ltc⟩ := M6.out.box2 2 rfl
    obtain ⟨⟨d0, d1⟩, ⟨f0, f1⟩, ltd⟩ := M6.out.box2 4 rfl
    cases v
    · go_wp2
      have MF := (M6.out.put 4 rfl 0 (.slice (some ⟨g4, 0, none⟩) (n) cp1)).put 4 rfl 1 (.slice A2 r.gs.length cp2)
      refine bodyPost_ret (Bx.res_ct Try.results35 rfl (reg_load (MF.blk 4 rfl))) rfl ?_
      rw [HX.out]
      exact StepTo.err (by decide) MF.held
    · go_wp2
      have MF := (M6.out.put 4 rfl 0 (.slice (some ⟨g4, 0, none⟩) (n) cp1)).put 4 rfl 1 (.slice A2 r.gs.length cp2)
      refine bodyPost_ret (Bx.res_ct Try.results35 rfl (reg_load (MF.blk 4 rfl))) rfl ?_
      rw [HX.out]
      exact StepTo.ok (r := ⟨L', r.gs⟩) (MF.take 2)
end Jn
end Go.Proofs.Ytmmnanmegdflgaa
