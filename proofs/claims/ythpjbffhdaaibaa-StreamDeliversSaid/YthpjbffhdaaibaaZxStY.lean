/-
  Contracts: link: removed, Lose, Deliver, Duplicate, Corrupt (chapters 23, 24).
-/
import Derived.Test.YthpjbffhdaaibaaZxStX
import Derived.Test.YthpjbffhdaaibaaZxFlipB
import Derived.Test.YthpjbffhdaaibaaZxFlip
set_option linter.unusedVariables false
set_option linter.unusedSimpArgs false
set_option maxRecDepth 100000
namespace Go.Proofs.Ythpjbffhdaaibaa
open Go.RowKit Go.BigFrame Go.Sort Go.Lib
namespace St
open Enc Uv Lg Lgc Strs
set_option maxHeartbeats 4000000 in
theorem removed_any (A : Option Addr) (n cap i : Nat) (P : List ByteArray) (w : World) (h : Sl 1 stC w A n P) (hA : A = none → n = 0) (hn : n ≤ 1000) (hi : i + 1 < n) (hcap : n ≤ cap) (hcm : cap ≤ maxLen) :
    Calls Try.prog 54 #[.slice A n cap, .int .i64 i] w (Sg.New 9 1 stC (P.take i ++ P.drop (i + 1)) w) := by
  have hcm' : (cap : Int) ≤ 9223372036854775807 := by unfold maxLen at hcm; omega
  clear hcm
  obtain ⟨b, off, rfl⟩ : ∃ b off, A = some ⟨b, off, none⟩ := by
    rcases h.2 with h0 | ⟨b, off, e, _⟩
    · omega
    · exact ⟨b, off, e⟩
  have hlen := h.1
  have hd := h.drop (k := i + 1) (by omega)
  obtain ⟨i0, hi0, hz0, hz1, hz2⟩ := info_parts SlcLs.info
  have hsl0 := fun w' => Sg.slice_from (P := Try.prog) Try.underlying44 hi0 hz1 b off n cap (i + 1) (by omega) hcap w'
  obtain ⟨A2, hA2⟩ : ∃ A2 : Addr, (⟨b, off + (i + 1) * 1, none⟩ : Addr) = A2 := ⟨_, rfl⟩
  obtain ⟨cp, w2, hr, ho, hh⟩ := SlcLs.grow_new stC_len stC_one (some ⟨b, off, none⟩) i (P.take i) (P.drop (i + 1)) w.drew ((h.take (by omega)).held (Held.refl w).drew) (fun h => by cases h) A2 (n - (i + 1)) (cap - (i + 1)) (by rw [List.length_drop, hlen]) (by omega) (Sg.sl_news (s := 1) stC_len (by decide) ((hA2 ▸ hd : Sl 1 stC w (some A2) _ _).held (Held.refl w).drew)) (by omega)
  have hfin : Hid (Sg.New 9 1 stC (P.take i ++ P.drop (i + 1)) w (.returned (.slice (some ⟨w.heap.size, 0, none⟩) (i + (n - (i + 1))) cp)) w2) := Sg.New.mk (ho.mono (Held.refl w).drew.le) ((Held.refl w).drew.step hh)
  have b1 : (i : Int) ≤ cap := by omega
  have b2 : (i : Int) + 1 ≤ n := by omega
  have b3 : (n : Int) ≤ cap := by omega
  have b4 : IntKind.i64.wrap ((i : Int) + 1) = (i : Int) + 1 := IntWalk.i64_in _ (by omega)
  have b5 : (0 : Int) ≤ (i : Int) + 1 := by omega
  have b6 : ((i : Int) + 1).toNat = i + 1 := by omega
  have b7 : ¬ cap = i + 1 := by omega
  have b8 : (0 : Int) ≤ (i : Int) := by omega
  have hsl : ∀ w', (Instr.slice 44 (.slice (some ⟨b, off, none⟩) n cap) (some (.int .i64 ((i : Int) + 1))) none none).run Try.prog w' = .ok (.slice (some A2) (n - (i + 1)) (cap - (i + 1))) w' := by
    intro w'
    have := hsl0 w'
    rw [if_neg b7, hA2] at this
    exact this
  clear hd ho hh h hA hlen hA2 hsl0 hi0 hz0 hz1 hz2
  go_enter Try.func54, Try.ntmps54
  go_wp2
  go_region_held3 (fun _ => True) (trivial) (refine Sg.step_append (by rfl) _ _ _ _ 44 (by rfl) (by rfl) (by rfl) (by rfl) hr ?_)
  all_goals
    go_wp2
    go_ret
    exact hfin.out
/-- The packets without one. -/
def cutAt (P : List ByteArray) (i : Nat) : List ByteArray := P.take i ++ P.drop (i + 1)
def llose (P : List ByteArray) (i : Nat) : List ByteArray × Bool := if i < P.length then (cutAt P i, true) else (P, false)
theorem lhas_yes (A : Option Addr) (n cap i : Nat) (hi : i < n) (hn : n ≤ 1000) (w : World) :
    Calls Try.prog 52 #[.agg #[.slice A n cap, .bool false], .int .i64 (i : Int)] w (BoolTo true w) := by
  have h := lhas_any A n cap false (i : Int) (by omega) (by omega) hn w
  rw [decide_eq_true (show (0 : Int) ≤ i by omega), decide_eq_true (show (i : Int) < n by omega)] at h
  exact h
theorem lhas_no (A : Option Addr) (n cap i : Nat) (hi : ¬ i < n) (hi2 : i ≤ 1000) (hn : n ≤ 1000) (w : World) :
    Calls Try.prog 52 #[.agg #[.slice A n cap, .bool false], .int .i64 (i : Int)] w (BoolTo false w) := by
  have h := lhas_any A n cap false (i : Int) (by omega) (by omega) hn w
  rw [decide_eq_false (show ¬ (i : Int) < n by omega), Bool.and_false] at h
  exact h
set_option maxHeartbeats 2000000 in
theorem lose_any (A : Option Addr) (n cap i : Nat) (P : List ByteArray) (w : World) (h : Sl 1 stC w A n P) (hA : A = none → n = 0) (hn : n ≤ 24) (hcap : n ≤ cap) (hcm : cap ≤ maxLen) (hi : i ≤ 1000) :
    Calls Try.prog 25 #[.agg #[.slice A n cap, .bool false], .int .i64 (i : Int)] w (LinkOk (llose P i) w) := by
  have hP := h.1
  have M0 := Lib.hid (((Mem.start w).alloc' (b := w.heap.size) rfl #[.slice A n cap, .bool false] 59).alloc' (b := w.heap.size + 1) (by simp) #[.slice none 0 0, .bool false] 59)
  have HK := Lib.hid M0.out.held
  obtain ⟨⟨a0, a1⟩, _, al⟩ := M0.out.box2 0 rfl
  by_cases hlt : i < n
  · have hl : llose P i = (cutAt P i, true) := if_pos (by omega)
    rw [hl]
    have HH := Lib.hid fun (w' : World) => lhas_yes A n cap i hlt (by omega) w'
    obtain ⟨b, off, rfl⟩ : ∃ b off, A = some ⟨b, off, none⟩ := by
      rcases h.2 with h0 | ⟨b, off, e, _⟩
      · omega
      · exact ⟨b, off, e⟩
    have b1 : (i : Int) ≤ cap := by omega
    have b8 : (0 : Int) ≤ (i : Int) := by omega
    by_cases hlast : i + 1 = n
    · have HC := Lib.hid fun (w' : World) (k : Held w w') => SlcLs.clone_any stC_len stC_one (some ⟨b, off, none⟩) i cap (P.take i) w' ((h.take (by omega)).held k) (fun h => by cases h) (by omega)
      have HD : Is (cutAt P i) (P.take i) := ⟨by unfold cutAt; rw [List.drop_of_length_le (by omega), List.append_nil]⟩
      have b4 : IntKind.i64.wrap ((n : Int) - 1) = (i : Int) := by rw [IntWalk.i64_in _ (by omega)]; omega
      have b5 : (n : Int) - 1 = (i : Int) := by omega
      have HTL : Is (P.take i).length i := ⟨by rw [List.length_take]; omega⟩
      clear h hl hP hA hcm hlast hlt
      go_enter Try.func25, Try.ntmps25
      go_wp2_with fail
      refine (HH.out _).mono ?_
      rintro e w3 ⟨rfl, h3⟩
      have M3 := Lib.hid (M0.out.keep h3)
      have K3 := Lib.hid (HK.out.step h3)
      obtain ⟨⟨a0, a1⟩, _, al⟩ := M3.out.box2 0 rfl
      obtain ⟨⟨d0, d1⟩, ⟨f0, f1⟩, l1⟩ := M3.out.box2 1 rfl
      clear h3 M0 HK
      go_wp2
      go_region_law (first
        | (go_simp; go_at_call 53; refine (HC.out _ K3.out.drew).mono ?_; rintro e w5 ⟨v, rfl, o5, h5⟩; obtain ⟨A5, cp5, rfl, _, _⟩ := o5.shape; obtain ⟨n5, hn5⟩ : ∃ n5, (P.take i).length = n5 := ⟨_, rfl⟩; rw [hn5] at o5 ⊢; clear hn5; have M5 := Lib.hid (M3.out.drew.own h5 o5); obtain ⟨⟨p0, p1⟩, _, pl⟩ := M5.out.box2 0 rfl; obtain ⟨⟨q0, q1⟩, ⟨qf0, qf1⟩, ql⟩ := M5.out.box2 1 rfl))
      all_goals
        go_wp2
        have MF := (M5.out.put 1 rfl 0 (.slice A5 n5 cp5)).put 1 rfl 1 (.bool false)
        refine bodyPost_ret (Bx.res_ct Try.results25 rfl (link_load (MF.blk 1 rfl))) rfl ?_
        refine ⟨A5, n5, cp5, rfl, ?_, MF.held⟩
        rw [HD.out]
        exact MF.row 2 rfl
    · have HC := Lib.hid fun (w' : World) (k : Held w w') => removed_any (some ⟨b, off, none⟩) n cap i P w' (h.held k) (fun h => by cases h) (by omega) (by omega) hcap hcm
      have b4 : IntKind.i64.wrap ((n : Int) - 1) = (n : Int) - 1 := IntWalk.i64_in _ (by omega)
      have b5 : ¬ (i : Int) = (n : Int) - 1 := by omega
      clear h hl hP hA hcm hlast hlt
      go_enter Try.func25, Try.ntmps25
      go_wp2_with fail
      refine (HH.out _).mono ?_
      rintro e w3 ⟨rfl, h3⟩
      have M3 := Lib.hid (M0.out.keep h3)
      have K3 := Lib.hid (HK.out.step h3)
      obtain ⟨⟨a0, a1⟩, _, al⟩ := M3.out.box2 0 rfl
      obtain ⟨⟨d0, d1⟩, ⟨f0, f1⟩, l1⟩ := M3.out.box2 1 rfl
      clear h3 M0 HK
      go_wp2
      go_region_law (first
        | (go_simp; go_at_call 54; refine (HC.out _ K3.out.drew).mono ?_; rintro e w5 ⟨v, rfl, o5, h5⟩; obtain ⟨A5, cp5, rfl, _, _⟩ := o5.shape; obtain ⟨n5, hn5⟩ : ∃ n5, (P.take i ++ P.drop (i + 1)).length = n5 := ⟨_, rfl⟩; rw [hn5] at o5 ⊢; clear hn5; have M5 := Lib.hid (M3.out.drew.own h5 o5); obtain ⟨⟨p0, p1⟩, _, pl⟩ := M5.out.box2 0 rfl; obtain ⟨⟨q0, q1⟩, ⟨qf0, qf1⟩, ql⟩ := M5.out.box2 1 rfl))
      all_goals
        go_wp2
        have MF := (M5.out.put 1 rfl 0 (.slice A5 n5 cp5)).put 1 rfl 1 (.bool false)
        refine bodyPost_ret (Bx.res_ct Try.results25 rfl (link_load (MF.blk 1 rfl))) rfl ?_
        exact ⟨A5, n5, cp5, rfl, MF.row 2 rfl, MF.held⟩
  · have hl : llose P i = (P, false) := if_neg (by omega)
    rw [hl]
    have HH := Lib.hid fun (w' : World) => lhas_no A n cap i hlt hi (by omega) w'
    have HC := Lib.hid fun (w' : World) (k : Held w w') => lclone_any A n cap P w' (h.held k) hA (by omega)
    clear h hl hP hA hcm hlt
    go_enter Try.func25, Try.ntmps25
    go_wp2_with fail
    refine (HH.out _).mono ?_
    rintro e w3 ⟨rfl, h3⟩
    have M3 := Lib.hid (M0.out.keep h3)
    have K3 := Lib.hid (HK.out.step h3)
    obtain ⟨⟨a0, a1⟩, _, al⟩ := M3.out.box2 0 rfl
    clear h3 M0 HK
    go_wp2_with fail
    refine (HC.out _ K3.out).mono ?_
    rintro e w5 ⟨A5, n5, cp5, rfl, o5, h5⟩
    have M5 := Lib.hid (M3.out.own h5 o5)
    obtain ⟨⟨d0, d1⟩, ⟨f0, f1⟩, l1⟩ := M5.out.box2 1 rfl
    go_wp2
    have MF := (M5.out.put 1 rfl 0 (.slice A5 n5 cp5)).put 1 rfl 1 (.bool false)
    refine bodyPost_ret (Bx.res_ct Try.results25 rfl (link_load (MF.blk 1 rfl))) rfl ?_
    exact ⟨A5, n5, cp5, rfl, MF.row 2 rfl, MF.held⟩
/-- A call hands back a link of its own, not cut, a packet, and a word. -/
def LinkDel (P : List ByteArray) (s : ByteArray) (ok : Bool) (w : World) (e : Ending) (w' : World) : Prop := ∃ A n cap, e = .returned (.tuple #[.agg #[.slice A n cap, .bool false], .string s, .bool ok]) ∧ Own 9 1 stC w.heap.size w' (.slice A n cap) P ∧ Held w w'
theorem res_ctt' {fn : Func} {tmps : Array Value} {w : World} {a b k l : Nat} {t : TypeId} {v : Value} (hr : fn.results = #[.cell a t, .tmp k, .tmp l]) (ha : tmps.getD a undef = .pointer (some ⟨b, 0, none⟩)) (hl : (loadVar t ⟨b, 0, none⟩).run Try.prog w = .ok v w) : (results fn tmps).run Try.prog w = .ok (.tuple #[v, tmps.getD k undef, tmps.getD l undef]) w := Bx.res_ctt hr ha hl
set_option maxHeartbeats 2000000 in
theorem deliver_no (A : Option Addr) (n cap i : Nat) (P : List ByteArray) (w : World) (h : Sl 1 stC w A n P) (hA : A = none → n = 0) (hn : n ≤ 24) (hi : i ≤ 1000) (hni : ¬ i < n) :
    Calls Try.prog 23 #[.agg #[.slice A n cap, .bool false], .int .i64 (i : Int)] w (LinkDel P ⟨#[]⟩ false w) := by
  have M0 := Lib.hid (((Mem.start w).alloc' (b := w.heap.size) rfl #[.slice A n cap, .bool false] 59).alloc' (b := w.heap.size + 1) (by simp) #[.slice none 0 0, .bool false] 59)
  have HK := Lib.hid M0.out.held
  obtain ⟨⟨a0, a1⟩, _, al⟩ := M0.out.box2 0 rfl
  have HH := Lib.hid fun (w' : World) => lhas_no A n cap i hni hi (by omega) w'
  have HC := Lib.hid fun (w' : World) (k : Held w w') => lclone_any A n cap P w' (h.held k) hA (by omega)
  clear h hA hni
  go_enter Try.func23, Try.ntmps23
  go_wp2_with fail
  refine (HH.out _).mono ?_
  rintro e w3 ⟨rfl, h3⟩
  have M3 := Lib.hid (M0.out.keep h3)
  have K3 := Lib.hid (HK.out.step h3)
  obtain ⟨⟨a0, a1⟩, _, al⟩ := M3.out.box2 0 rfl
  clear h3 M0 HK
  go_wp2_with fail
  refine (HC.out _ K3.out).mono ?_
  rintro e w5 ⟨A5, n5, cp5, rfl, o5, h5⟩
  have M5 := Lib.hid (M3.out.own h5 o5)
  obtain ⟨⟨d0, d1⟩, ⟨f0, f1⟩, l1⟩ := M5.out.box2 1 rfl
  go_wp2
  have MF := (M5.out.put 1 rfl 0 (.slice A5 n5 cp5)).put 1 rfl 1 (.bool false)
  refine bodyPost_ret (res_ctt' Try.results23 rfl (link_load (MF.blk 1 rfl))) rfl ?_
  exact ⟨A5, n5, cp5, rfl, MF.row 2 rfl, MF.held⟩
set_option maxHeartbeats 2000000 in
theorem deliver_yes (A : Option Addr) (n cap i : Nat) (P : List ByteArray) (p : ByteArray) (w : World) (h : Sl 1 stC w A n P) (hA : A = none → n = 0) (hn : n ≤ 24) (hcap : n ≤ cap) (hcm : cap ≤ maxLen) (hi : i < n) (hp : P[i]? = some p) :
    Calls Try.prog 23 #[.agg #[.slice A n cap, .bool false], .int .i64 (i : Int)] w (LinkDel (cutAt P i) p true w) := by
  have M0 := Lib.hid (((Mem.start w).alloc' (b := w.heap.size) rfl #[.slice A n cap, .bool false] 59).alloc' (b := w.heap.size + 1) (by simp) #[.slice none 0 0, .bool false] 59)
  have HK := Lib.hid M0.out.held
  obtain ⟨⟨a0, a1⟩, _, al⟩ := M0.out.box2 0 rfl
  have HH := Lib.hid fun (w' : World) => lhas_yes A n cap i hi (by omega) w'
  have HC := Lib.hid fun (w' : World) (k : Held w w') => lose_any A n cap i P w' (h.held k) hA (by omega) hcap hcm (by omega)
  have hP := h.1
  have HL : Is (llose P i) (cutAt P i, true) := ⟨if_pos (by omega)⟩
  rw [HL.out] at HC
  obtain ⟨b, off, x, rfl, hb, hx, hc⟩ := Sl.at_ h (Held.refl w) (k := i) hi
  rw [hp] at hx
  injection hx with hx
  subst hx
  have c0 := hc 0 _ rfl
  simp only [Nat.mul_one, Nat.add_zero] at c0
  have z1 : (i : Int) < n := by omega
  have z0 : (0 : Int) ≤ i := by omega
  have HC0 := Lib.hid c0
  clear h hA hi hc hp hP HL c0 hcm
  go_enter Try.func23, Try.ntmps23
  go_wp2_with fail
  refine (HH.out _).mono ?_
  rintro e w3 ⟨rfl, h3⟩
  have M3 := Lib.hid (M0.out.keep h3)
  have K3 := Lib.hid (HK.out.step h3)
  obtain ⟨⟨a0, a1⟩, _, al⟩ := M3.out.box2 0 rfl
  have c0 := K3.out.cell HC0.out
  clear h3 M0 HK
  go_wp2_with fail
  refine (HC.out _ K3.out).mono ?_
  rintro e w5 ⟨A5, n5, cp5, rfl, o5, h5⟩
  have M5 := Lib.hid ((M3.out.own h5 o5).alloc #[.slice A5 n5 cp5, .bool false] 59)
  obtain ⟨⟨d0, d1⟩, ⟨f0, f1⟩, l1⟩ := M5.out.box2 1 rfl
  obtain ⟨⟨g0, g1⟩, _, gl⟩ := M5.out.box2 3 rfl
  clear c0 a0 a1
  go_wp2
  have MF := (M5.out.put 1 rfl 0 (.slice A5 n5 cp5)).put 1 rfl 1 (.bool false)
  refine bodyPost_ret (res_ctt' Try.results23 rfl (link_load (MF.blk 1 rfl))) rfl ?_
  exact ⟨A5, n5, cp5, rfl, MF.row 2 rfl, MF.held⟩
set_option maxHeartbeats 2000000 in
theorem dup_no (A : Option Addr) (n cap i : Nat) (P : List ByteArray) (w : World) (h : Sl 1 stC w A n P) (hA : A = none → n = 0) (hn : n ≤ 24) (hi : i ≤ 1000) (hni : ¬ (i < n ∧ n < 24)) :
    Calls Try.prog 24 #[.agg #[.slice A n cap, .bool false], .int .i64 (i : Int)] w (LinkOk (P, false) w) := by
  have M0 := Lib.hid (((Mem.start w).alloc' (b := w.heap.size) rfl #[.slice A n cap, .bool false] 59).alloc' (b := w.heap.size + 1) (by simp) #[.slice none 0 0, .bool false] 59)
  have HK := Lib.hid M0.out.held
  obtain ⟨⟨a0, a1⟩, _, al⟩ := M0.out.box2 0 rfl
  have HC := Lib.hid fun (w' : World) (k : Held w w') => lclone_any A n cap P w' (h.held k) hA (by omega)
  by_cases hlt : i < n
  · have HH := Lib.hid fun (w' : World) => lhas_yes A n cap i hlt (by omega) w'
    have z24 : (24 : Int) ≤ n := by omega
    clear h hA hni hlt
    go_enter Try.func24, Try.ntmps24
    go_wp2_with fail
    refine (HH.out _).mono ?_
    rintro e w3 ⟨rfl, h3⟩
    have M3 := Lib.hid (M0.out.keep h3)
    have K3 := Lib.hid (HK.out.step h3)
    obtain ⟨⟨a0, a1⟩, _, al⟩ := M3.out.box2 0 rfl
    clear h3 M0 HK
    go_wp2_with fail
    refine (HC.out _ K3.out).mono ?_
    rintro e w5 ⟨A5, n5, cp5, rfl, o5, h5⟩
    have M5 := Lib.hid (M3.out.own h5 o5)
    obtain ⟨⟨d0, d1⟩, ⟨f0, f1⟩, l1⟩ := M5.out.box2 1 rfl
    go_wp2
    have MF := (M5.out.put 1 rfl 0 (.slice A5 n5 cp5)).put 1 rfl 1 (.bool false)
    refine bodyPost_ret (Bx.res_ct Try.results24 rfl (link_load (MF.blk 1 rfl))) rfl ?_
    exact ⟨A5, n5, cp5, rfl, MF.row 2 rfl, MF.held⟩
  · have HH := Lib.hid fun (w' : World) => lhas_no A n cap i hlt hi (by omega) w'
    clear h hA hni hlt
    go_enter Try.func24, Try.ntmps24
    go_wp2_with fail
    refine (HH.out _).mono ?_
    rintro e w3 ⟨rfl, h3⟩
    have M3 := Lib.hid (M0.out.keep h3)
    have K3 := Lib.hid (HK.out.step h3)
    obtain ⟨⟨a0, a1⟩, _, al⟩ := M3.out.box2 0 rfl
    clear h3 M0 HK
    go_wp2_with fail
    refine (HC.out _ K3.out).mono ?_
    rintro e w5 ⟨A5, n5, cp5, rfl, o5, h5⟩
    have M5 := Lib.hid (M3.out.own h5 o5)
    obtain ⟨⟨d0, d1⟩, ⟨f0, f1⟩, l1⟩ := M5.out.box2 1 rfl
    go_wp2
    have MF := (M5.out.put 1 rfl 0 (.slice A5 n5 cp5)).put 1 rfl 1 (.bool false)
    refine bodyPost_ret (Bx.res_ct Try.results24 rfl (link_load (MF.blk 1 rfl))) rfl ?_
    exact ⟨A5, n5, cp5, rfl, MF.row 2 rfl, MF.held⟩
set_option maxHeartbeats 2000000 in
theorem dup_yes (A : Option Addr) (n cap i : Nat) (P : List ByteArray) (p : ByteArray) (w : World) (h : Sl 1 stC w A n P) (hA : A = none → n = 0) (hn : n < 24) (hcap : n ≤ cap) (hcm : cap ≤ maxLen) (hi : i < n) (hp : P[i]? = some p) :
    Calls Try.prog 24 #[.agg #[.slice A n cap, .bool false], .int .i64 (i : Int)] w (LinkOk (P ++ [p], true) w) := by
  have M0 := Lib.hid (((Mem.start w).alloc' (b := w.heap.size) rfl #[.slice A n cap, .bool false] 59).alloc' (b := w.heap.size + 1) (by simp) #[.slice none 0 0, .bool false] 59)
  have HK := Lib.hid M0.out.held
  obtain ⟨⟨a0, a1⟩, _, al⟩ := M0.out.box2 0 rfl
  have HH := Lib.hid fun (w' : World) => lhas_yes A n cap i hi (by omega) w'
  have HC := Lib.hid fun (w' : World) (k : Held w w') => added_any A n cap P p w' (h.held k) hA (by omega) hcap hcm
  have hP := h.1
  obtain ⟨b, off, x, rfl, hb, hx, hc⟩ := Sl.at_ h (Held.refl w) (k := i) hi
  rw [hp] at hx
  injection hx with hx
  subst hx
  have c0 := hc 0 _ rfl
  simp only [Nat.mul_one, Nat.add_zero] at c0
  have z1 : (i : Int) < n := by omega
  have z0 : (0 : Int) ≤ i := by omega
  have z24 : ¬ (24 : Int) ≤ n := by omega
  have HC0 := Lib.hid c0
  clear h hA hi hc hp hP c0 hcm hn
  go_enter Try.func24, Try.ntmps24
  go_wp2_with fail
  refine (HH.out _).mono ?_
  rintro e w3 ⟨rfl, h3⟩
  have M3 := Lib.hid (M0.out.keep h3)
  have K3 := Lib.hid (HK.out.step h3)
  obtain ⟨⟨a0, a1⟩, _, al⟩ := M3.out.box2 0 rfl
  obtain ⟨⟨d0, d1⟩, ⟨f0, f1⟩, l1⟩ := M3.out.box2 1 rfl
  have c0 := K3.out.cell HC0.out
  clear h3 M0 HK
  go_wp2
  go_region_law (first
    | (go_simp; go_at_call 51; refine (HC.out _ K3.out.drew).mono ?_; rintro e w5 ⟨v, rfl, o5, h5⟩; obtain ⟨A5, cp5, rfl, _, _⟩ := o5.shape; obtain ⟨n5, hn5⟩ : ∃ n5, (P ++ [p]).length = n5 := ⟨_, rfl⟩; rw [hn5] at o5 ⊢; clear hn5; have M5 := Lib.hid (M3.out.drew.own h5 o5); obtain ⟨⟨p0, p1⟩, _, pl⟩ := M5.out.box2 0 rfl; obtain ⟨⟨q0, q1⟩, ⟨qf0, qf1⟩, ql⟩ := M5.out.box2 1 rfl))
  all_goals
    go_wp2
    have MF := (M5.out.put 1 rfl 0 (.slice A5 n5 cp5)).put 1 rfl 1 (.bool false)
    refine bodyPost_ret (Bx.res_ct Try.results24 rfl (link_load (MF.blk 1 rfl))) rfl ?_
    exact ⟨A5, n5, cp5, rfl, MF.row 2 rfl, MF.held⟩
/-- Which bit is turned. -/
def bitOf (p : ByteArray) (bit : Int) : Nat := (IntKind.u64.wrap bit).toNat % (8 * p.size)
def flipped (p : ByteArray) (bit : Int) : ByteArray := ⟨(p.data.toList.set (bitOf p bit / 8) (Flip.turn (p.data.toList.getD (bitOf p bit / 8) 0) (bitOf p bit % 8))).toArray⟩
set_option maxHeartbeats 4000000 in
theorem corrupt_no (A : Option Addr) (n cap i : Nat) (bit : Int) (P : List ByteArray) (w : World) (h : Sl 1 stC w A n P) (hA : A = none → n = 0) (hn : n ≤ 24) (hi : i ≤ 1000) (hni : ¬ i < n) :
    Calls Try.prog 26 #[.agg #[.slice A n cap, .bool false], .int .i64 (i : Int), .int .i64 bit] w (LinkOk (P, false) w) := by
  have M0 := Lib.hid (((Mem.start w).alloc' (b := w.heap.size) rfl #[.slice A n cap, .bool false] 59).alloc' (b := w.heap.size + 1) (by simp) #[.slice none 0 0, .bool false] 59)
  have HK := Lib.hid M0.out.held
  obtain ⟨⟨a0, a1⟩, _, al⟩ := M0.out.box2 0 rfl
  have HC := Lib.hid fun (w' : World) (k : Held w w') => lclone_any A n cap P w' (h.held k) hA (by omega)
  have HH := Lib.hid fun (w' : World) => lhas_no A n cap i hni hi (by omega) w'
  clear h hA hni
  go_enter Try.func26, Try.ntmps26
  go_wp2_with fail
  refine (HC.out _ HK.out).mono ?_
  rintro e w3 ⟨A5, n5, cp5, rfl, o5, h3⟩
  have M3 := Lib.hid ((M0.out.own h3 o5).alloc #[.slice A5 n5 cp5, .bool false] 59)
  obtain ⟨⟨a0, a1⟩, _, al⟩ := M3.out.box2 0 rfl
  clear M0 HK h3 o5
  go_wp2_with fail
  refine (HH.out _).mono ?_
  rintro e w5 ⟨rfl, h5⟩
  have M5 := Lib.hid (M3.out.keep h5)
  obtain ⟨⟨d0, d1⟩, ⟨f0, f1⟩, l1⟩ := M5.out.box2 1 rfl
  obtain ⟨⟨g0, g1⟩, _, gl⟩ := M5.out.box2 3 rfl
  clear h5 M3 a0 a1
  go_wp2
  have MF := (M5.out.put 1 rfl 0 (.slice A5 n5 cp5)).put 1 rfl 1 (.bool false)
  refine bodyPost_ret (Bx.res_ct Try.results26 rfl (link_load (MF.blk 1 rfl))) rfl ?_
  exact ⟨A5, n5, cp5, rfl, MF.row 2 rfl, MF.held⟩
set_option maxHeartbeats 10000000 in
theorem corrupt_yes (A : Option Addr) (n cap i : Nat) (bit : Int) (P : List ByteArray) (p : ByteArray) (w : World) (h : Sl 1 stC w A n P) (hA : A = none → n = 0) (hn : n ≤ 24) (hcap : n ≤ cap) (hcm : cap ≤ maxLen) (hi : i < n) (hp : P[i]? = some p) (hs0 : 0 < p.size) (hs : p.size ≤ 1000000) :
    Calls Try.prog 26 #[.agg #[.slice A n cap, .bool false], .int .i64 (i : Int), .int .i64 bit] w (LinkOk (P.set i (flipped p bit), true) w) := by
  have M0 := Lib.hid (((Mem.start w).alloc' (b := w.heap.size) rfl #[.slice A n cap, .bool false] 59).alloc' (b := w.heap.size + 1) (by simp) #[.slice none 0 0, .bool false] 59)
  have HK := Lib.hid M0.out.held
  obtain ⟨⟨a0, a1⟩, _, al⟩ := M0.out.box2 0 rfl
  have HC := Lib.hid fun (w' : World) (k : Held w w') => lclone_any A n cap P w' (h.held k) hA (by omega)
  have HH := Lib.hid fun (w' : World) => lhas_yes A n cap i hi (by omega) w'
  have hP := h.1
  obtain ⟨b, off, x, rfl, hb, hx, hc⟩ := Sl.at_ h (Held.refl w) (k := i) hi
  rw [hp] at hx
  injection hx with hx
  subst hx
  have c0 := hc 0 _ rfl
  simp only [Nat.mul_one, Nat.add_zero] at c0
  have z1 : (i : Int) < n := by omega
  have z0 : (0 : Int) ≤ i := by omega
  have HC0 := Lib.hid c0
  obtain ⟨u, hu⟩ : ∃ u : Nat, IntKind.u64.wrap bit = (u : Int) := ⟨(IntKind.u64.wrap bit).toNat, by rw [IntKind.wrap_u64]; omega⟩
  obtain ⟨q, hq⟩ : ∃ q, bitOf p bit = q := ⟨_, rfl⟩
  have hq2 : u % (8 * p.size) = q := by rw [← hq]; unfold bitOf; rw [hu, Int.toNat_natCast]
  have hql : q < 8 * p.size := by rw [← hq2]; exact Nat.mod_lt _ (by omega)
  obtain ⟨j, hj⟩ : ∃ j, q / 8 = j := ⟨_, rfl⟩
  have hjp : j < p.size := by omega
  have hr8 : q % 8 < 8 := Nat.mod_lt _ (by omega)
  obtain ⟨r, hr⟩ : ∃ r, q % 8 = r := ⟨_, rfl⟩
  rw [hr] at hr8
  have hb8 := Flip.turn_bits p[j] r hr8
  have hbq : (p[j].toNat : Int) ≤ 255 := by have := p[j].toNat_lt; omega
  obtain ⟨c, hc'⟩ : ∃ c, Flip.turn p[j] r = c := ⟨_, rfl⟩
  rw [hc'] at hb8
  have HF : Is (flipped p bit) ⟨(p.data.toList.set j c).toArray⟩ := ⟨by
    unfold flipped
    rw [hq, hj, hr, ← hc']
    congr 3
    rw [List.getD_eq_getElem?_getD, List.getElem?_eq_getElem (by simpa using hjp)]
    rfl⟩
  rw [HF.out]
  have i1 : (q : Int) / 8 = (j : Int) := by omega
  have i2 : (q : Int) % 8 = (r : Int) := by omega
  have i3 : (u : Int) % (8 * (p.size : Int)) = (q : Int) := by rw [← hq2]; push_cast; rfl
  have i5 : (j : Int) < (p.size : Int) := by omega
  have i6 : (0 : Int) ≤ (j : Int) := by omega
  have i7 : ¬ (8 * (p.size : Int)) = 0 := by omega
  have hz : (p.data.toList == ([] : List UInt8)) = false := by
    cases hd : p.data.toList with
    | nil => have := congrArg List.length hd; rw [len_eq] at this; simp only [List.length_nil] at this; omega
    | cons a l => rfl
  have hz2 : p.toList.isEmpty = false := by
    rw [ByteArray.toList_eq]
    cases hd : p.data.toList with
    | nil => have := congrArg List.length hd; rw [len_eq] at this; simp only [List.length_nil] at this; omega
    | cons a l => rfl
  have HFL := Lib.hid (fun w => Flip.facts p w j hjp c)
  have HPL : Is P.length n := ⟨hP⟩
  clear h hA hi hc hp hP c0 hcm hq hq2 hj hr hc' HF hql hs0
  go_enter Try.func26, Try.ntmps26
  go_wp2_with fail
  refine (HC.out _ HK.out).mono ?_
  rintro e w3 ⟨A5, n5, cp5, rfl, o5, h3⟩
  have hn5 : n5 = n := by rw [← HPL.out]; exact (Own.reads stC_len o5).2.1
  subst hn5
  have M3 := Lib.hid ((M0.out.own h3 o5).alloc #[.slice A5 n5 cp5, .bool false] 59)
  have K3 := Lib.hid ((HK.out.step h3).alloc (.cells #[.slice A5 n5 cp5, .bool false] 59))
  obtain ⟨⟨a0, a1⟩, _, al⟩ := M3.out.box2 0 rfl
  clear M0 HK h3 o5
  go_wp2_with fail
  refine (HH.out _).mono ?_
  rintro e w5 ⟨rfl, h5⟩
  have M5 := Lib.hid (M3.out.keep h5)
  obtain ⟨⟨a0, a1⟩, _, al⟩ := M5.out.box2 0 rfl
  obtain ⟨⟨d0, d1⟩, ⟨f0, f1⟩, l1⟩ := M5.out.box2 1 rfl
  obtain ⟨⟨g0, g1⟩, _, gl⟩ := M5.out.box2 3 rfl
  have c0 := (K3.out.step h5).cell HC0.out
  clear h5 M3
  obtain ⟨C, cap2, hconv, hfz, hcl, hback⟩ := HFL.out w5
  have HBK := Lib.hid hback
  clear hback
  have M7 := Lib.hid (M5.out.keep (((Held.refl w5).alloc (.cells C 5 (C.size, C.size + 1))).set (Nat.le_refl _) (.int .u8 c.toNat) : Held w5 ((w5.alloc (.cells C 5 (C.size, C.size + 1))).setCell ⟨w5.heap.size, j, none⟩ (.int .u8 c.toNat))))
  obtain ⟨⟨g0', g1'⟩, _, gl'⟩ := M7.out.box2 3 rfl
  obtain ⟨⟨d0', d1'⟩, ⟨f0', f1'⟩, l1'⟩ := M7.out.box2 1 rfl
  obtain ⟨gP, xs, rfl, hgeP, hglP, hxP, hxcP⟩ := M7.out.slot 2 rfl stC_len (by decide) (k := i) (by rw [HPL.out]; omega)
  have y0 := (hxcP 0 (by decide)).2 _ rfl
  have yf := (hxcP 0 (by decide)).1
  simp only [Nat.mul_one, Nat.add_zero] at y0 yf
  have M8 := Lib.hid (M7.out.putAt 2 rfl stC_len hxP (j := 0) (by decide) (.string ⟨(p.data.toList.set j c).toArray⟩) ⟨(p.data.toList.set j c).toArray⟩ rfl)
  have hbk : (convert 100 9 (.slice (some ⟨w5.heap.size, 0, none⟩) p.size cap2)).run Try.prog ((w5.alloc (.cells C 5 (C.size, C.size + 1))).setCell ⟨w5.heap.size, j, none⟩ (.int .u8 c.toNat)).drew =
      .ok (.string ⟨(p.data.toList.set j c).toArray⟩) ((w5.alloc (.cells C 5 (C.size, C.size + 1))).setCell ⟨w5.heap.size, j, none⟩ (.int .u8 c.toNat)).drew := HBK.out 1
  have n1 : ¬ w3.heap.size = gP := fun e => M7.out.neRow 3 2 rfl rfl (by decide) (by rw [e]; rfl)
  have n2 : ¬ w.heap.size + 1 = gP := fun e => M7.out.neRow 1 2 rfl rfl (by decide) (by rw [e]; rfl)
  have n3 : ¬ gP = w3.heap.size := fun e => n1 e.symm
  have n4 : ¬ gP = w.heap.size + 1 := fun e => n2 e.symm
  have M9 := M8.out
  rw [show i * 1 + 0 = i by omega] at M9
  have MF := Lib.hid (((M9.put 1 rfl 0 (.slice (some ⟨gP, 0, none⟩) n5 cp5)).put 1 rfl 1 (.bool false)).drew)
  clear M8 M9 hxcP hxP
  obtain rfl | rfl | rfl | rfl | rfl | rfl | rfl | rfl : r = 0 ∨ r = 1 ∨ r = 2 ∨ r = 3 ∨ r = 4 ∨ r = 5 ∨ r = 6 ∨ r = 7 := by omega
  all_goals
    simp only [Nat.reducePow, Int.cast_ofNat_Int, Int.natCast_one] at hb8
    go_wp2
    refine bodyPost_ret (Bx.res_ct Try.results26 rfl (link_load (MF.out.blk 1 rfl))) rfl ?_
    exact ⟨some ⟨gP, 0, none⟩, n5, cp5, rfl, MF.out.row 2 rfl, MF.out.held⟩
end St
end Go.Proofs.Ythpjbffhdaaibaa
