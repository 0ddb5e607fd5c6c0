/-
  Contracts: Apply of the program (chapter 42).
-/
import Derived.Test.YtmmnanmegdflgaaZ13
set_option linter.unusedVariables false
set_option linter.unusedSimpArgs false
set_option maxRecDepth 100000
namespace Go.Proofs.Ytmmnanmegdflgaa
open Go.RowKit Go.BigFrame Go.Sort
namespace Jn
open Ad Adm Law39
/-- The slices' capacities. -/
structure Caps (A1 : Option Addr) (n1 c1 : Nat) (A2 : Option Addr) (n2 c2 : Nat) : Prop where
  h : n1 ≤ c1
  g : n2 ≤ c2
  zh : A1 = none → c1 = 0
  zg : A2 = none → c2 = 0
theorem own_caps {α : Type} {e : TypeId} {s : Nat} {f : α → List Value} {base : Nat} {w : World} {A : Option Addr} {n c : Nat} {L : List α} (h : Own e s f base w (.slice A n c) L) : n ≤ c ∧ (A = none → c = 0) := by
  rcases h.2 with ⟨he, h0⟩ | ⟨g, cap, cur, he, _, _, hc, _⟩
  · injection he with e1 e2 e3
    subst e1 e2 e3
    exact ⟨Nat.le_refl _, fun _ => rfl⟩
  · injection he with e1 e2 e3
    subst e1 e2 e3
    exact ⟨hc, fun h => by cases h⟩
theorem Caps.of {α β : Type} {e e' : TypeId} {s s' : Nat} {f : α → List Value} {f' : β → List Value} {base base' : Nat} {w w' : World} {A1 A2 : Option Addr} {n1 c1 n2 c2 : Nat} {L : List α} {L' : List β} (h1 : Own e s f base w (.slice A1 n1 c1) L) (h2 : Own e' s' f' base' w' (.slice A2 n2 c2) L') : Caps A1 n1 c1 A2 n2 c2 :=
  ⟨(own_caps h1).1, (own_caps h2).1, (own_caps h1).2, (own_caps h2).2⟩
theorem Caps.hosts {α : Type} {e : TypeId} {s : Nat} {f : α → List Value} {base : Nat} {w : World} {A1 A2 A0 : Option Addr} {n1 c1 n2 c2 n0 c0 : Nat} {L : List α} (h1 : Own e s f base w (.slice A1 n1 c1) L) (h2 : Caps A0 n0 c0 A2 n2 c2) : Caps A1 n1 c1 A2 n2 c2 :=
  ⟨(own_caps h1).1, h2.g, (own_caps h1).2, h2.zg⟩
theorem Caps.guests {α : Type} {e : TypeId} {s : Nat} {f : α → List Value} {base : Nat} {w : World} {A1 A2 A0 : Option Addr} {n1 c1 n2 c2 n0 c0 : Nat} {L : List α} (h1 : Caps A1 n1 c1 A0 n0 c0) (h2 : Own e s f base w (.slice A2 n2 c2) L) : Caps A1 n1 c1 A2 n2 c2 :=
  ⟨h1.h, (own_caps h2).1, h1.zh, (own_caps h2).2⟩
/-- A call hands back a registry and an error. -/
def ApTo (x : Reg × Int) (w : World) (e : Ending) (w' : World) : Prop := ∃ A1 n1 c1 A2 n2 c2, e = .returned (.tuple #[.agg #[.slice A1 n1 c1, .slice A2 n2 c2], .int .i64 x.2]) ∧ Held w w' ∧ RegR w' A1 n1 A2 n2 x.1 ∧ Caps A1 n1 c1 A2 n2 c2
/-- What lies behind it was made since. -/
def Fresh (w : World) (A : Option Addr) : Prop := ∀ a, A = some a → w.heap.size ≤ a.block
theorem own_fresh {α : Type} {e : TypeId} {s : Nat} {f : α → List Value} {W w : World} {A : Option Addr} {n c : Nat} {L : List α} (h : Own e s f W.heap.size w (.slice A n c) L) : Fresh W A := by
  rintro a rfl
  rcases h.2 with ⟨he, _⟩ | ⟨g, cap, cur, he, hg, _⟩
  · cases he
  · injection he with e1 e2 e3
    injection e1 with e1
    subst e1
    exact hg
/-- A call hands back a registry of its own and an error. -/
def ApFr (x : Reg × Int) (w : World) (e : Ending) (w' : World) : Prop := ∃ A1 n1 c1 A2 n2 c2, e = .returned (.tuple #[.agg #[.slice A1 n1 c1, .slice A2 n2 c2], .int .i64 x.2]) ∧ Held w w' ∧ RegR w' A1 n1 A2 n2 x.1 ∧ Caps A1 n1 c1 A2 n2 c2 ∧ Fresh w A1 ∧ Fresh w A2
theorem validR_parts {r : Reg} (h : validR r = true) : r.hs.length ≤ 6 ∧ r.gs.length ≤ 8 ∧ Srt r.gs := by
  unfold validR few at h
  simp only [Bool.and_eq_true, decide_eq_true_eq] at h
  exact ⟨h.1.1, h.1.2, srt_of h.2.1⟩
theorem apply_errI {r r' : Reg} {o : Man} {er : Int} (h : apply r o = (r', er)) (he : ¬ er = 0) : apply r o = (r, er) := by
  have h2 := apply_err (r := r) (o := o) (by rw [h]; exact he)
  rw [h] at h2
  simp only at h2
  rw [h, h2]
theorem apply_bad {r : Reg} {o : Man} (h : validR r = false) : apply r o = (r, 4200) := by unfold apply; rw [if_neg (by rw [h]; decide)]
theorem apply_4 {r : Reg} {o : Man} (h : validR r = true) (hk : o.k = 4) : apply r o = setHost r o := by unfold apply; rw [if_pos h, if_pos hk]
theorem apply_1 {r : Reg} {o : Man} (h : validR r = true) (hk : o.k = 1) : apply r o = add r o := by unfold apply; rw [if_pos h, if_neg (by rw [hk]; decide), if_pos hk]
theorem apply_2 {r : Reg} {o : Man} (h : validR r = true) (hk : o.k = 2) : apply r o = remove r o := by unfold apply; rw [if_pos h, if_neg (by rw [hk]; decide), if_neg (by rw [hk]; decide), if_pos hk]
theorem apply_3 {r : Reg} {o : Man} (h : validR r = true) (hk : o.k = 3) : apply r o = move r o := by unfold apply; rw [if_pos h, if_neg (by rw [hk]; decide), if_neg (by rw [hk]; decide), if_neg (by rw [hk]; decide), if_pos hk]
theorem apply_else {r : Reg} {o : Man} (h : validR r = true) (h4 : ¬ o.k = 4) (h1 : ¬ o.k = 1) (h2 : ¬ o.k = 2) (h3 : ¬ o.k = 3) : apply r o = (r, 4200) := by
  unfold apply; rw [if_pos h, if_neg h4, if_neg h1, if_neg h2, if_neg h3]
set_option maxHeartbeats 4000000 in
theorem apply_fr (HA : Option Addr) (hn hc : Nat) (GA : Option Addr) (gn gc : Nat) (r : Reg) (k : Int) (nm : ByteArray) (a b dr dl dc dg cm cc : Int) (up : Bool) (w : World) (h : RegR w HA hn GA gn r) (hhn : (hn : Int) ≤ 1000000) (hgn : (gn : Int) ≤ 1000000) (hnm : ∀ p ∈ r.gs, (p.nm.size : Int) ≤ 1000000000) (hnl : (nm.size : Int) ≤ 1000000000) :
    Calls Try.prog 12 #[.agg #[.slice HA hn hc, .slice GA gn gc], .agg #[.int .i64 k, .string nm, .int .i64 a, .int .i64 b, .int .i64 dr, .int .i64 dl, .int .i64 dc, .int .i64 dg, .int .i64 cm, .int .i64 cc, .bool up]] w (ApFr (apply r ⟨k, nm, a, b, ⟨dr, dl, dc, dg⟩, ⟨cm, cc, up⟩⟩) w) := by
  have HR := Lib.hid h
  obtain ⟨W2, hW2⟩ : ∃ W2, ((w.alloc (.cells #[.slice HA hn hc, .slice GA gn gc] 37)).alloc (.cells #[.int .i64 k, .string nm, .int .i64 a, .int .i64 b, .int .i64 dr, .int .i64 dl, .int .i64 dc, .int .i64 dg, .int .i64 cm, .int .i64 cc, .bool up] 27)).alloc (.cells #[.slice none 0 0, .slice none 0 0] 37) = W2 := ⟨_, rfl⟩
  have M : Hid (Mem w W2 [.box w.heap.size #[.slice HA hn hc, .slice GA gn gc] 37, .box (w.heap.size + 1) #[.int .i64 k, .string nm, .int .i64 a, .int .i64 b, .int .i64 dr, .int .i64 dl, .int .i64 dc, .int .i64 dg, .int .i64 cm, .int .i64 cc, .bool up] 27, .box (w.heap.size + 1 + 1) #[.slice none 0 0, .slice none 0 0] 37]) := by
    rw [← hW2]; exact (((Mem.start w).alloc' (b := w.heap.size) rfl _ _).alloc' (b := w.heap.size + 1) (by simp) _ _).alloc' (b := w.heap.size + 1 + 1) (by simp) _ _
  have HEQ := Lib.hid hW2
  have hval := valid_any HA hn hc GA gn gc r.hs r.gs W2 (h.held M.out.held).hs (h.held M.out.held).gs hhn hgn hnm
  obtain ⟨v, hv⟩ : ∃ v, validR ⟨r.hs, r.gs⟩ = v := ⟨_, rfl⟩
  have HVR : Is (validR r) v := ⟨hv⟩
  rw [hv] at hval
  have HVAL := Lib.hid hval
  clear hW2 hval hv h
  obtain ⟨⟨c0, c1⟩, ⟨e0, e1⟩, ltc⟩ := M.out.box2 0 rfl
  obtain ⟨⟨m0, m1, m2, m3, m4, m5, m6, m7, m8, m9, m10⟩, _, ltm⟩ := M.out.box11 1 rfl
  obtain ⟨⟨d0, d1⟩, ⟨f0, f1⟩, ltd⟩ := M.out.box2 2 rfl
  cases v
  · have HAPP : Is (apply r ⟨k, nm, a, b, ⟨dr, dl, dc, dg⟩, ⟨cm, cc, up⟩⟩) (r, 4200) := ⟨apply_bad HVR.out⟩
    go_enter Try.func12, Try.ntmps12
    go_wp2_with fail
    rw [HEQ.out]
    refine HVAL.out.mono ?_
    rintro e w1 ⟨rfl, h1⟩
    have M1 := Lib.hid (M.out.keep h1)
    clear M h1 HVAL
    clear c0 c1 e0 e1 m0 m1 m2 m3 m4 m5 m6 m7 m8 m9 m10 d0 d1 f0 f1 ltc ltm ltd
    obtain ⟨⟨c0, c1⟩, ⟨e0, e1⟩, ltc⟩ := M1.out.box2 0 rfl
    obtain ⟨⟨m0, m1, m2, m3, m4, m5, m6, m7, m8, m9, m10⟩, _, ltm⟩ := M1.out.box11 1 rfl
    obtain ⟨⟨d0, d1⟩, ⟨f0, f1⟩, ltd⟩ := M1.out.box2 2 rfl
    go_wp2_with fail
    refine (clone_any HA hn hc GA gn gc r _ (HR.out.held M1.out.held) hhn hgn).mono ?_
    rintro e w9 ⟨v1, v2, rfl, o9⟩
    obtain ⟨A9, cp9, rfl, _, _⟩ := (o9.row 0 rfl).shape
    obtain ⟨B9, dp9, rfl, _, _⟩ := (o9.row 1 rfl).shape
    have MA := M1.out.own o9.held (o9.row 0 rfl)
    have MB := M1.out.own o9.held (o9.row 1 rfl)
    have M9 := Lib.hid (M1.out.keep o9.held)
    have hl1 : r.hs.length = r.hs.length := rfl
    clear M1 hl1
    clear c0 c1 e0 e1 m0 m1 m2 m3 m4 m5 m6 m7 m8 m9 m10 d0 d1 f0 f1 ltc ltm ltd
    obtain ⟨⟨d0, d1⟩, ⟨f0, f1⟩, ltd⟩ := M9.out.box2 2 rfl
    go_wp2
    have MFA := (MA.put 2 rfl 0 (.slice A9 r.hs.length cp9)).put 2 rfl 1 (.slice B9 r.gs.length dp9)
    have MFB := (MB.put 2 rfl 0 (.slice A9 r.hs.length cp9)).put 2 rfl 1 (.slice B9 r.gs.length dp9)
    refine bodyPost_ret (Bx.res_ct Try.results12 rfl (reg_load (MFA.blk 2 rfl))) rfl ?_
    rw [HAPP.out]
    exact ⟨_, _, _, _, _, _, rfl, MFA.held, ⟨(Own.reads capC_len (MFA.row 3 rfl)).1, (Own.reads plC_len (MFB.row 3 rfl)).1⟩, Caps.of (MFA.row 3 rfl) (MFB.row 3 rfl), own_fresh (MFA.row 3 rfl), own_fresh (MFB.row 3 rfl)⟩
  obtain ⟨hl6, hg8, hsrt⟩ := validR_parts HVR.out
  have HSRT := Lib.hid hsrt
  clear hsrt
  by_cases k4 : k = 4
  · subst k4
    obtain ⟨⟨r', er⟩, hxx⟩ : ∃ x, setHost r ⟨4, nm, a, b, ⟨dr, dl, dc, dg⟩, ⟨cm, cc, up⟩⟩ = x := ⟨_, rfl⟩
    have HXX : Is (setHost r ⟨4, nm, a, b, ⟨dr, dl, dc, dg⟩, ⟨cm, cc, up⟩⟩) (r', er) := ⟨hxx⟩
    have HAPP0 : Is (apply r ⟨4, nm, a, b, ⟨dr, dl, dc, dg⟩, ⟨cm, cc, up⟩⟩) (r', er) := ⟨by rw [apply_4 HVR.out rfl, hxx]⟩
    clear hxx
    by_cases he : er = 0
    · subst he
      have HAPP := HAPP0
      clear HAPP0
      go_enter Try.func12, Try.ntmps12
      go_wp2_with fail
      rw [HEQ.out]
      refine HVAL.out.mono ?_
      rintro e w1 ⟨rfl, h1⟩
      have M1 := Lib.hid (M.out.keep h1)
      clear M h1 HVAL
      clear c0 c1 e0 e1 m0 m1 m2 m3 m4 m5 m6 m7 m8 m9 m10 d0 d1 f0 f1 ltc ltm ltd
      obtain ⟨⟨c0, c1⟩, ⟨e0, e1⟩, ltc⟩ := M1.out.box2 0 rfl
      obtain ⟨⟨m0, m1, m2, m3, m4, m5, m6, m7, m8, m9, m10⟩, _, ltm⟩ := M1.out.box11 1 rfl
      obtain ⟨⟨d0, d1⟩, ⟨f0, f1⟩, ltd⟩ := M1.out.box2 2 rfl
      go_wp2
      obtain ⟨w2, hw2⟩ : ∃ w2, w1.alloc (.cells #[.slice none 0 0, .slice none 0 0] 37) = w2 := ⟨_, rfl⟩
      have M2 := Lib.hid (M1.out.alloc' (b := w1.heap.size) rfl #[.slice none 0 0, .slice none 0 0] 37)
      rw [hw2] at M2 ⊢
      clear M1 hw2
      clear c0 c1 e0 e1 m0 m1 m2 m3 m4 m5 m6 m7 m8 m9 m10 d0 d1 f0 f1 ltc ltm ltd
      obtain ⟨⟨c0, c1⟩, ⟨e0, e1⟩, ltc⟩ := M2.out.box2 0 rfl
      obtain ⟨⟨m0, m1, m2, m3, m4, m5, m6, m7, m8, m9, m10⟩, _, ltm⟩ := M2.out.box11 1 rfl
      obtain ⟨⟨d0, d1⟩, ⟨f0, f1⟩, ltd⟩ := M2.out.box2 2 rfl
      obtain ⟨⟨g0, g1⟩, ⟨j0, j1⟩, ltg⟩ := M2.out.box2 3 rfl
      have yc0 : w2.drew.cell? ⟨w.heap.size, 0, none⟩ = some (.slice HA hn hc) := c0
      have yc1 : w2.drew.cell? ⟨w.heap.size, 1, none⟩ = some (.slice GA gn gc) := c1
      have ym0 : w2.drew.cell? ⟨w.heap.size + 1, 0, none⟩ = some (.int .i64 4) := m0
      have ym1 : w2.drew.cell? ⟨w.heap.size + 1, 1, none⟩ = some ((.string nm)) := m1
      have ym2 : w2.drew.cell? ⟨w.heap.size + 1, 2, none⟩ = some (.int .i64 a) := m2
      have ym3 : w2.drew.cell? ⟨w.heap.size + 1, 3, none⟩ = some (.int .i64 b) := m3
      have ym4 : w2.drew.cell? ⟨w.heap.size + 1, 4, none⟩ = some (.int .i64 dr) := m4
      have ym5 : w2.drew.cell? ⟨w.heap.size + 1, 5, none⟩ = some (.int .i64 dl) := m5
      have ym6 : w2.drew.cell? ⟨w.heap.size + 1, 6, none⟩ = some (.int .i64 dc) := m6
      have ym7 : w2.drew.cell? ⟨w.heap.size + 1, 7, none⟩ = some (.int .i64 dg) := m7
      have ym8 : w2.drew.cell? ⟨w.heap.size + 1, 8, none⟩ = some (.int .i64 cm) := m8
      have ym9 : w2.drew.cell? ⟨w.heap.size + 1, 9, none⟩ = some (.int .i64 cc) := m9
      have ym10 : w2.drew.cell? ⟨w.heap.size + 1, 10, none⟩ = some (.bool up) := m10
      have yH : Held w w2.drew := M2.out.held.drew
      have yW : Held w w2 := M2.out.held
      go_region_held3 (fun w' => w'.cell? ⟨w.heap.size, 0, none⟩ = some (.slice HA hn hc) ∧ w'.cell? ⟨w.heap.size, 1, none⟩ = some (.slice GA gn gc) ∧ w'.cell? ⟨w.heap.size + 1, 0, none⟩ = some (.int .i64 4) ∧ w'.cell? ⟨w.heap.size + 1, 1, none⟩ = some ((.string nm)) ∧ w'.cell? ⟨w.heap.size + 1, 2, none⟩ = some (.int .i64 a) ∧ w'.cell? ⟨w.heap.size + 1, 3, none⟩ = some (.int .i64 b) ∧ w'.cell? ⟨w.heap.size + 1, 4, none⟩ = some (.int .i64 dr) ∧ w'.cell? ⟨w.heap.size + 1, 5, none⟩ = some (.int .i64 dl) ∧ w'.cell? ⟨w.heap.size + 1, 6, none⟩ = some (.int .i64 dc) ∧ w'.cell? ⟨w.heap.size + 1, 7, none⟩ = some (.int .i64 dg) ∧ w'.cell? ⟨w.heap.size + 1, 8, none⟩ = some (.int .i64 cm) ∧ w'.cell? ⟨w.heap.size + 1, 9, none⟩ = some (.int .i64 cc) ∧ w'.cell? ⟨w.heap.size + 1, 10, none⟩ = some (.bool up) ∧ Held w w')
        ((repeat' refine And.intro ?_ ?_) <;> with_reducible assumption)
        (first | (go_at_call 34; refine (clone_any HA hn hc GA gn gc r w2.drew (HR.out.held M2.out.held.drew) hhn hgn).mono ?_; rintro e w5 ⟨v1, v2, rfl, o5⟩; have k5 : Held w2 w5 := (Held.refl w2).drew.step o5.held; obtain ⟨A5, cp5, rfl, _, _⟩ := (o5.row 0 rfl).shape; obtain ⟨B5, dp5, rfl, _, _⟩ := (o5.row 1 rfl).shape; have M5 := Lib.hid (M2.out.keep k5); have vc0 := Held.cell k5 c0; have vc1 := Held.cell k5 c1; have vm0 := Held.cell k5 m0; have vm1 := Held.cell k5 m1; have vm2 := Held.cell k5 m2; have vm3 := Held.cell k5 m3; have vm4 := Held.cell k5 m4; have vm5 := Held.cell k5 m5; have vm6 := Held.cell k5 m6; have vm7 := Held.cell k5 m7; have vm8 := Held.cell k5 m8; have vm9 := Held.cell k5 m9; have vm10 := Held.cell k5 m10; have vH : Held w w5 := M5.out.held) | (go_at_call 35; refine (setHost_any w2.drew _ _ r 4 nm a b dr dl dc dg cm cc up w5 o5 (by omega) (by omega) hnm).mono ?_; rintro e w6 ⟨A6, n6, q6, B6, t6, u6, rfl, h6, ho6⟩; rw [HXX.out] at ho6 ⊢; have k6 : Held w2 w6 := (Held.refl w2).drew.step h6; have M6 := Lib.hid (M2.out.keep k6); obtain ⟨⟨g0', g1'⟩, ⟨j0', j1'⟩, ltg'⟩ := M6.out.box2 3 rfl; have xc0 := Held.cell k6 c0; have xc1 := Held.cell k6 c1; have xm0 := Held.cell k6 m0; have xm1 := Held.cell k6 m1; have xm2 := Held.cell k6 m2; have xm3 := Held.cell k6 m3; have xm4 := Held.cell k6 m4; have xm5 := Held.cell k6 m5; have xm6 := Held.cell k6 m6; have xm7 := Held.cell k6 m7; have xm8 := Held.cell k6 m8; have xm9 := Held.cell k6 m9; have xm10 := Held.cell k6 m10; have xH : Held w w6 := M6.out.held; have MP := (M6.out.put 3 rfl 0 (.slice A6 n6 q6)).put 3 rfl 1 (.slice B6 t6 u6); have zc0 : ((w6.setCell ⟨w1.heap.size, 0, none⟩ (.slice A6 n6 q6)).setCell ⟨w1.heap.size, 1, none⟩ (.slice B6 t6 u6)).cell? ⟨w.heap.size, 0, none⟩ = some (.slice HA hn hc) := MP.cell 0 rfl 0 rfl; have zc1 : ((w6.setCell ⟨w1.heap.size, 0, none⟩ (.slice A6 n6 q6)).setCell ⟨w1.heap.size, 1, none⟩ (.slice B6 t6 u6)).cell? ⟨w.heap.size, 1, none⟩ = some (.slice GA gn gc) := MP.cell 0 rfl 1 rfl; have zm0 : ((w6.setCell ⟨w1.heap.size, 0, none⟩ (.slice A6 n6 q6)).setCell ⟨w1.heap.size, 1, none⟩ (.slice B6 t6 u6)).cell? ⟨w.heap.size + 1, 0, none⟩ = some (.int .i64 4) := MP.cell 1 rfl 0 rfl; have zm1 : ((w6.setCell ⟨w1.heap.size, 0, none⟩ (.slice A6 n6 q6)).setCell ⟨w1.heap.size, 1, none⟩ (.slice B6 t6 u6)).cell? ⟨w.heap.size + 1, 1, none⟩ = some ((.string nm)) := MP.cell 1 rfl 1 rfl; have zm2 : ((w6.setCell ⟨w1.heap.size, 0, none⟩ (.slice A6 n6 q6)).setCell ⟨w1.heap.size, 1, none⟩ (.slice B6 t6 u6)).cell? ⟨w.heap.size + 1, 2, none⟩ = some (.int .i64 a) := MP.cell 1 rfl 2 rfl; have zm3 : ((w6.setCell ⟨w1.heap.size, 0, none⟩ (.slice A6 n6 q6)).setCell ⟨w1.heap.size, 1, none⟩ (.slice B6 t6 u6)).cell? ⟨w.heap.size + 1, 3, none⟩ = some (.int .i64 b) := MP.cell 1 rfl 3 rfl; have zm4 : ((w6.setCell ⟨w1.heap.size, 0, none⟩ (.slice A6 n6 q6)).setCell ⟨w1.heap.size, 1, none⟩ (.slice B6 t6 u6)).cell? ⟨w.heap.size + 1, 4, none⟩ = some (.int .i64 dr) := MP.cell 1 rfl 4 rfl; have zm5 : ((w6.setCell ⟨w1.heap.size, 0, none⟩ (.slice A6 n6 q6)).setCell ⟨w1.heap.size, 1, none⟩ (.slice B6 t6 u6)).cell? ⟨w.heap.size + 1, 5, none⟩ = some (.int .i64 dl) := MP.cell 1 rfl 5 rfl; have zm6 : ((w6.setCell ⟨w1.heap.size, 0, none⟩ (.slice A6 n6 q6)).setCell ⟨w1.heap.size, 1, none⟩ (.slice B6 t6 u6)).cell? ⟨w.heap.size + 1, 6, none⟩ = some (.int .i64 dc) := MP.cell 1 rfl 6 rfl; have zm7 : ((w6.setCell ⟨w1.heap.size, 0, none⟩ (.slice A6 n6 q6)).setCell ⟨w1.heap.size, 1, none⟩ (.slice B6 t6 u6)).cell? ⟨w.heap.size + 1, 7, none⟩ = some (.int .i64 dg) := MP.cell 1 rfl 7 rfl; have zm8 : ((w6.setCell ⟨w1.heap.size, 0, none⟩ (.slice A6 n6 q6)).setCell ⟨w1.heap.size, 1, none⟩ (.slice B6 t6 u6)).cell? ⟨w.heap.size + 1, 8, none⟩ = some (.int .i64 cm) := MP.cell 1 rfl 8 rfl; have zm9 : ((w6.setCell ⟨w1.heap.size, 0, none⟩ (.slice A6 n6 q6)).setCell ⟨w1.heap.size, 1, none⟩ (.slice B6 t6 u6)).cell? ⟨w.heap.size + 1, 9, none⟩ = some (.int .i64 cc) := MP.cell 1 rfl 9 rfl; have zm10 : ((w6.setCell ⟨w1.heap.size, 0, none⟩ (.slice A6 n6 q6)).setCell ⟨w1.heap.size, 1, none⟩ (.slice B6 t6 u6)).cell? ⟨w.heap.size + 1, 10, none⟩ = some (.bool up) := MP.cell 1 rfl 10 rfl; have zH := MP.held; clear MP))
      clear yc0 yc1 ym0 ym1 ym2 ym3 ym4 ym5 ym6 ym7 ym8 ym9 ym10 yH yW vc0 vc1 vm0 vm1 vm2 vm3 vm4 vm5 vm6 vm7 vm8 vm9 vm10 vH xc0 xc1 xm0 xm1 xm2 xm3 xm4 xm5 xm6 xm7 xm8 xm9 xm10 xH zc0 zc1 zm0 zm1 zm2 zm3 zm4 zm5 zm6 zm7 zm8 zm9 zm10 zH
      have ho := ho6 (by simp)
      have MA := Lib.hid (((M2.out.drew.own h6 (ho.row 0 rfl)).put 3 rfl 0 (.slice A6 n6 q6)).put 3 rfl 1 (.slice B6 t6 u6))
      have MB := Lib.hid (((M2.out.drew.own h6 (ho.row 1 rfl)).put 3 rfl 0 (.slice A6 n6 q6)).put 3 rfl 1 (.slice B6 t6 u6))
      clear M2 M5 M6 ho ho6
      clear c0 c1 e0 e1 m0 m1 m2 m3 m4 m5 m6 m7 m8 m9 m10 d0 d1 f0 f1 ltc ltm ltd
      clear g0 g1 j0 j1 ltg
      clear g0' g1' j0' j1' ltg'
      obtain ⟨w7, hw7⟩ : ∃ w7, (w6.setCell ⟨w1.heap.size, 0, none⟩ (.slice A6 n6 q6)).setCell ⟨w1.heap.size, 1, none⟩ (.slice B6 t6 u6) = w7 := ⟨_, rfl⟩
      rw [hw7] at MA MB ⊢
      clear hw7
      obtain ⟨⟨g0, g1⟩, ⟨j0, j1⟩, ltg⟩ := MA.out.box2 3 rfl
      obtain ⟨⟨d0, d1⟩, ⟨f0, f1⟩, ltd⟩ := MA.out.box2 2 rfl
      go_wp2
      have MFA := (MA.out.put 2 rfl 0 (.slice A6 n6 q6)).put 2 rfl 1 (.slice B6 t6 u6)
      have MFB := (MB.out.put 2 rfl 0 (.slice A6 n6 q6)).put 2 rfl 1 (.slice B6 t6 u6)
      refine bodyPost_ret (Bx.res_ct Try.results12 rfl (reg_load (MFA.blk 2 rfl))) rfl ?_
      rw [HAPP.out]
      exact ⟨_, _, _, _, _, _, rfl, MFA.held, ⟨(Own.reads capC_len (MFA.row 4 rfl)).1, (Own.reads plC_len (MFB.row 4 rfl)).1⟩, Caps.of (MFA.row 4 rfl) (MFB.row 4 rfl), own_fresh (MFA.row 4 rfl), own_fresh (MFB.row 4 rfl)⟩
    · have heb : (er != 0) = true := by simp [he]
      have hec : (er == 0) = false := by simp [he]
      have HAPP : Is (apply r ⟨4, nm, a, b, ⟨dr, dl, dc, dg⟩, ⟨cm, cc, up⟩⟩) (r, er) := ⟨apply_errI HAPP0.out he⟩
      clear he HAPP0
      go_enter Try.func12, Try.ntmps12
      go_wp2_with fail
      rw [HEQ.out]
      refine HVAL.out.mono ?_
      rintro e w1 ⟨rfl, h1⟩
      have M1 := Lib.hid (M.out.keep h1)
      clear M h1 HVAL
      clear c0 c1 e0 e1 m0 m1 m2 m3 m4 m5 m6 m7 m8 m9 m10 d0 d1 f0 f1 ltc ltm ltd
      obtain ⟨⟨c0, c1⟩, ⟨e0, e1⟩, ltc⟩ := M1.out.box2 0 rfl
      obtain ⟨⟨m0, m1, m2, m3, m4, m5, m6, m7, m8, m9, m10⟩, _, ltm⟩ := M1.out.box11 1 rfl
      obtain ⟨⟨d0, d1⟩, ⟨f0, f1⟩, ltd⟩ := M1.out.box2 2 rfl
      go_wp2
      obtain ⟨w2, hw2⟩ : ∃ w2, w1.alloc (.cells #[.slice none 0 0, .slice none 0 0] 37) = w2 := ⟨_, rfl⟩
      have M2 := Lib.hid (M1.out.alloc' (b := w1.heap.size) rfl #[.slice none 0 0, .slice none 0 0] 37)
      rw [hw2] at M2 ⊢
      clear M1 hw2
      clear c0 c1 e0 e1 m0 m1 m2 m3 m4 m5 m6 m7 m8 m9 m10 d0 d1 f0 f1 ltc ltm ltd
      obtain ⟨⟨c0, c1⟩, ⟨e0, e1⟩, ltc⟩ := M2.out.box2 0 rfl
      obtain ⟨⟨m0, m1, m2, m3, m4, m5, m6, m7, m8, m9, m10⟩, _, ltm⟩ := M2.out.box11 1 rfl
      obtain ⟨⟨d0, d1⟩, ⟨f0, f1⟩, ltd⟩ := M2.out.box2 2 rfl
      obtain ⟨⟨g0, g1⟩, ⟨j0, j1⟩, ltg⟩ := M2.out.box2 3 rfl
      have yc0 : w2.drew.cell? ⟨w.heap.size, 0, none⟩ = some (.slice HA hn hc) := c0
      have yc1 : w2.drew.cell? ⟨w.heap.size, 1, none⟩ = some (.slice GA gn gc) := c1
      have ym0 : w2.drew.cell? ⟨w.heap.size + 1, 0, none⟩ = some (.int .i64 4) := m0
      have ym1 : w2.drew.cell? ⟨w.heap.size + 1, 1, none⟩ = some ((.string nm)) := m1
      have ym2 : w2.drew.cell? ⟨w.heap.size + 1, 2, none⟩ = some (.int .i64 a) := m2
      have ym3 : w2.drew.cell? ⟨w.heap.size + 1, 3, none⟩ = some (.int .i64 b) := m3
      have ym4 : w2.drew.cell? ⟨w.heap.size + 1, 4, none⟩ = some (.int .i64 dr) := m4
      have ym5 : w2.drew.cell? ⟨w.heap.size + 1, 5, none⟩ = some (.int .i64 dl) := m5
      have ym6 : w2.drew.cell? ⟨w.heap.size + 1, 6, none⟩ = some (.int .i64 dc) := m6
      have ym7 : w2.drew.cell? ⟨w.heap.size + 1, 7, none⟩ = some (.int .i64 dg) := m7
      have ym8 : w2.drew.cell? ⟨w.heap.size + 1, 8, none⟩ = some (.int .i64 cm) := m8
      have ym9 : w2.drew.cell? ⟨w.heap.size + 1, 9, none⟩ = some (.int .i64 cc) := m9
      have ym10 : w2.drew.cell? ⟨w.heap.size + 1, 10, none⟩ = some (.bool up) := m10
      have yH : Held w w2.drew := M2.out.held.drew
      have yW : Held w w2 := M2.out.held
      go_region_held3 (fun w' => w'.cell? ⟨w.heap.size, 0, none⟩ = some (.slice HA hn hc) ∧ w'.cell? ⟨w.heap.size, 1, none⟩ = some (.slice GA gn gc) ∧ w'.cell? ⟨w.heap.size + 1, 0, none⟩ = some (.int .i64 4) ∧ w'.cell? ⟨w.heap.size + 1, 1, none⟩ = some ((.string nm)) ∧ w'.cell? ⟨w.heap.size + 1, 2, none⟩ = some (.int .i64 a) ∧ w'.cell? ⟨w.heap.size + 1, 3, none⟩ = some (.int .i64 b) ∧ w'.cell? ⟨w.heap.size + 1, 4, none⟩ = some (.int .i64 dr) ∧ w'.cell? ⟨w.heap.size + 1, 5, none⟩ = some (.int .i64 dl) ∧ w'.cell? ⟨w.heap.size + 1, 6, none⟩ = some (.int .i64 dc) ∧ w'.cell? ⟨w.heap.size + 1, 7, none⟩ = some (.int .i64 dg) ∧ w'.cell? ⟨w.heap.size + 1, 8, none⟩ = some (.int .i64 cm) ∧ w'.cell? ⟨w.heap.size + 1, 9, none⟩ = some (.int .i64 cc) ∧ w'.cell? ⟨w.heap.size + 1, 10, none⟩ = some (.bool up) ∧ Held w w')
        ((repeat' refine And.intro ?_ ?_) <;> with_reducible assumption)
        (first | (go_at_call 34; refine (clone_any HA hn hc GA gn gc r w2.drew (HR.out.held M2.out.held.drew) hhn hgn).mono ?_; rintro e w5 ⟨v1, v2, rfl, o5⟩; have k5 : Held w2 w5 := (Held.refl w2).drew.step o5.held; obtain ⟨A5, cp5, rfl, _, _⟩ := (o5.row 0 rfl).shape; obtain ⟨B5, dp5, rfl, _, _⟩ := (o5.row 1 rfl).shape; have M5 := Lib.hid (M2.out.keep k5); have vc0 := Held.cell k5 c0; have vc1 := Held.cell k5 c1; have vm0 := Held.cell k5 m0; have vm1 := Held.cell k5 m1; have vm2 := Held.cell k5 m2; have vm3 := Held.cell k5 m3; have vm4 := Held.cell k5 m4; have vm5 := Held.cell k5 m5; have vm6 := Held.cell k5 m6; have vm7 := Held.cell k5 m7; have vm8 := Held.cell k5 m8; have vm9 := Held.cell k5 m9; have vm10 := Held.cell k5 m10; have vH : Held w w5 := M5.out.held) | (go_at_call 35; refine (setHost_any w2.drew _ _ r 4 nm a b dr dl dc dg cm cc up w5 o5 (by omega) (by omega) hnm).mono ?_; rintro e w6 ⟨A6, n6, q6, B6, t6, u6, rfl, h6, ho6⟩; rw [HXX.out] at ho6 ⊢; have k6 : Held w2 w6 := (Held.refl w2).drew.step h6; have M6 := Lib.hid (M2.out.keep k6); obtain ⟨⟨g0', g1'⟩, ⟨j0', j1'⟩, ltg'⟩ := M6.out.box2 3 rfl; have xc0 := Held.cell k6 c0; have xc1 := Held.cell k6 c1; have xm0 := Held.cell k6 m0; have xm1 := Held.cell k6 m1; have xm2 := Held.cell k6 m2; have xm3 := Held.cell k6 m3; have xm4 := Held.cell k6 m4; have xm5 := Held.cell k6 m5; have xm6 := Held.cell k6 m6; have xm7 := Held.cell k6 m7; have xm8 := Held.cell k6 m8; have xm9 := Held.cell k6 m9; have xm10 := Held.cell k6 m10; have xH : Held w w6 := M6.out.held; have MP := (M6.out.put 3 rfl 0 (.slice A6 n6 q6)).put 3 rfl 1 (.slice B6 t6 u6); have zc0 : ((w6.setCell ⟨w1.heap.size, 0, none⟩ (.slice A6 n6 q6)).setCell ⟨w1.heap.size, 1, none⟩ (.slice B6 t6 u6)).cell? ⟨w.heap.size, 0, none⟩ = some (.slice HA hn hc) := MP.cell 0 rfl 0 rfl; have zc1 : ((w6.setCell ⟨w1.heap.size, 0, none⟩ (.slice A6 n6 q6)).setCell ⟨w1.heap.size, 1, none⟩ (.slice B6 t6 u6)).cell? ⟨w.heap.size, 1, none⟩ = some (.slice GA gn gc) := MP.cell 0 rfl 1 rfl; have zm0 : ((w6.setCell ⟨w1.heap.size, 0, none⟩ (.slice A6 n6 q6)).setCell ⟨w1.heap.size, 1, none⟩ (.slice B6 t6 u6)).cell? ⟨w.heap.size + 1, 0, none⟩ = some (.int .i64 4) := MP.cell 1 rfl 0 rfl; have zm1 : ((w6.setCell ⟨w1.heap.size, 0, none⟩ (.slice A6 n6 q6)).setCell ⟨w1.heap.size, 1, none⟩ (.slice B6 t6 u6)).cell? ⟨w.heap.size + 1, 1, none⟩ = some ((.string nm)) := MP.cell 1 rfl 1 rfl; have zm2 : ((w6.setCell ⟨w1.heap.size, 0, none⟩ (.slice A6 n6 q6)).setCell ⟨w1.heap.size, 1, none⟩ (.slice B6 t6 u6)).cell? ⟨w.heap.size + 1, 2, none⟩ = some (.int .i64 a) := MP.cell 1 rfl 2 rfl; have zm3 : ((w6.setCell ⟨w1.heap.size, 0, none⟩ (.slice A6 n6 q6)).setCell ⟨w1.heap.size, 1, none⟩ (.slice B6 t6 u6)).cell? ⟨w.heap.size + 1, 3, none⟩ = some (.int .i64 b) := MP.cell 1 rfl 3 rfl; have zm4 : ((w6.setCell ⟨w1.heap.size, 0, none⟩ (.slice A6 n6 q6)).setCell ⟨w1.heap.size, 1, none⟩ (.slice B6 t6 u6)).cell? ⟨w.heap.size + 1, 4, none⟩ = some (.int .i64 dr) := MP.cell 1 rfl 4 rfl; have zm5 : ((w6.setCell ⟨w1.heap.size, 0, none⟩ (.slice A6 n6 q6)).setCell ⟨w1.heap.size, 1, none⟩ (.slice B6 t6 u6)).cell? ⟨w.heap.size + 1, 5, none⟩ = some (.int .i64 dl) := MP.cell 1 rfl 5 rfl; have zm6 : ((w6.setCell ⟨w1.heap.size, 0, none⟩ (.slice A6 n6 q6)).setCell ⟨w1.heap.size, 1, none⟩ (.slice B6 t6 u6)).cell? ⟨w.heap.size + 1, 6, none⟩ = some (.int .i64 dc) := MP.cell 1 rfl 6 rfl; have zm7 : ((w6.setCell ⟨w1.heap.size, 0, none⟩ (.slice A6 n6 q6)).setCell ⟨w1.heap.size, 1, none⟩ (.slice B6 t6 u6)).cell? ⟨w.heap.size + 1, 7, none⟩ = some (.int .i64 dg) := MP.cell 1 rfl 7 rfl; have zm8 : ((w6.setCell ⟨w1.heap.size, 0, none⟩ (.slice A6 n6 q6)).setCell ⟨w1.heap.size, 1, none⟩ (.slice B6 t6 u6)).cell? ⟨w.heap.size + 1, 8, none⟩ = some (.int .i64 cm) := MP.cell 1 rfl 8 rfl; have zm9 : ((w6.setCell ⟨w1.heap.size, 0, none⟩ (.slice A6 n6 q6)).setCell ⟨w1.heap.size, 1, none⟩ (.slice B6 t6 u6)).cell? ⟨w.heap.size + 1, 9, none⟩ = some (.int .i64 cc) := MP.cell 1 rfl 9 rfl; have zm10 : ((w6.setCell ⟨w1.heap.size, 0, none⟩ (.slice A6 n6 q6)).setCell ⟨w1.heap.size, 1, none⟩ (.slice B6 t6 u6)).cell? ⟨w.heap.size + 1, 10, none⟩ = some (.bool up) := MP.cell 1 rfl 10 rfl; have zH := MP.held; clear MP))
      clear yc0 yc1 ym0 ym1 ym2 ym3 ym4 ym5 ym6 ym7 ym8 ym9 ym10 yH yW vc0 vc1 vm0 vm1 vm2 vm3 vm4 vm5 vm6 vm7 vm8 vm9 vm10 vH xc0 xc1 xm0 xm1 xm2 xm3 xm4 xm5 xm6 xm7 xm8 xm9 xm10 xH zc0 zc1 zm0 zm1 zm2 zm3 zm4 zm5 zm6 zm7 zm8 zm9 zm10 zH
      have M7 := Lib.hid ((M6.out.put 3 rfl 0 (.slice A6 n6 q6)).put 3 rfl 1 (.slice B6 t6 u6))
      clear M2 M5 M6 ho6
      clear c0 c1 e0 e1 m0 m1 m2 m3 m4 m5 m6 m7 m8 m9 m10 d0 d1 f0 f1 ltc ltm ltd
      clear g0 g1 j0 j1 ltg
      clear g0' g1' j0' j1' ltg'
      obtain ⟨w7, hw7⟩ : ∃ w7, (w6.setCell ⟨w1.heap.size, 0, none⟩ (.slice A6 n6 q6)).setCell ⟨w1.heap.size, 1, none⟩ (.slice B6 t6 u6) = w7 := ⟨_, rfl⟩
      rw [hw7] at M7 ⊢
      clear hw7
      obtain ⟨⟨c0, c1⟩, ⟨e0, e1⟩, ltc⟩ := M7.out.box2 0 rfl
      obtain ⟨⟨m0, m1, m2, m3, m4, m5, m6, m7, m8, m9, m10⟩, _, ltm⟩ := M7.out.box11 1 rfl
      obtain ⟨⟨d0, d1⟩, ⟨f0, f1⟩, ltd⟩ := M7.out.box2 2 rfl
      obtain ⟨⟨g0, g1⟩, ⟨j0, j1⟩, ltg⟩ := M7.out.box2 3 rfl
      go_wp2_with fail
      refine (clone_any HA hn hc GA gn gc r _ (HR.out.held M7.out.held) hhn hgn).mono ?_
      rintro e w9 ⟨v1, v2, rfl, o9⟩
      obtain ⟨A9, cp9, rfl, _, _⟩ := (o9.row 0 rfl).shape
      obtain ⟨B9, dp9, rfl, _, _⟩ := (o9.row 1 rfl).shape
      have MA := M7.out.own o9.held (o9.row 0 rfl)
      have MB := M7.out.own o9.held (o9.row 1 rfl)
      have M9 := Lib.hid (M7.out.keep o9.held)
      have hl1 : r.hs.length = r.hs.length := rfl
      clear M7 hl1
      clear c0 c1 e0 e1 m0 m1 m2 m3 m4 m5 m6 m7 m8 m9 m10 d0 d1 f0 f1 ltc ltm ltd
      clear g0 g1 j0 j1 ltg
      obtain ⟨⟨d0, d1⟩, ⟨f0, f1⟩, ltd⟩ := M9.out.box2 2 rfl
      go_wp2
      have MFA := (MA.put 2 rfl 0 (.slice A9 r.hs.length cp9)).put 2 rfl 1 (.slice B9 r.gs.length dp9)
      have MFB := (MB.put 2 rfl 0 (.slice A9 r.hs.length cp9)).put 2 rfl 1 (.slice B9 r.gs.length dp9)
      refine bodyPost_ret (Bx.res_ct Try.results12 rfl (reg_load (MFA.blk 2 rfl))) rfl ?_
      rw [HAPP.out]
      exact ⟨_, _, _, _, _, _, rfl, MFA.held, ⟨(Own.reads capC_len (MFA.row 4 rfl)).1, (Own.reads plC_len (MFB.row 4 rfl)).1⟩, Caps.of (MFA.row 4 rfl) (MFB.row 4 rfl), own_fresh (MFA.row 4 rfl), own_fresh (MFB.row 4 rfl)⟩
  by_cases k1 : k = 1
  · subst k1
    obtain ⟨⟨r', er⟩, hxx⟩ : ∃ x, add r ⟨1, nm, a, b, ⟨dr, dl, dc, dg⟩, ⟨cm, cc, up⟩⟩ = x := ⟨_, rfl⟩
    have HXX : Is (add r ⟨1, nm, a, b, ⟨dr, dl, dc, dg⟩, ⟨cm, cc, up⟩⟩) (r', er) := ⟨hxx⟩
    have HAPP0 : Is (apply r ⟨1, nm, a, b, ⟨dr, dl, dc, dg⟩, ⟨cm, cc, up⟩⟩) (r', er) := ⟨by rw [apply_1 HVR.out rfl, hxx]⟩
    clear hxx
    by_cases he : er = 0
    · subst he
      have HAPP := HAPP0
      clear HAPP0
      go_enter Try.func12, Try.ntmps12
      go_wp2_with fail
      rw [HEQ.out]
      refine HVAL.out.mono ?_
      rintro e w1 ⟨rfl, h1⟩
      have M1 := Lib.hid (M.out.keep h1)
      clear M h1 HVAL
      clear c0 c1 e0 e1 m0 m1 m2 m3 m4 m5 m6 m7 m8 m9 m10 d0 d1 f0 f1 ltc ltm ltd
      obtain ⟨⟨c0, c1⟩, ⟨e0, e1⟩, ltc⟩ := M1.out.box2 0 rfl
      obtain ⟨⟨m0, m1, m2, m3, m4, m5, m6, m7, m8, m9, m10⟩, _, ltm⟩ := M1.out.box11 1 rfl
      obtain ⟨⟨d0, d1⟩, ⟨f0, f1⟩, ltd⟩ := M1.out.box2 2 rfl
      go_wp2
      obtain ⟨w2, hw2⟩ : ∃ w2, w1.alloc (.cells #[.slice none 0 0, .slice none 0 0] 37) = w2 := ⟨_, rfl⟩
      have M2 := Lib.hid (M1.out.alloc' (b := w1.heap.size) rfl #[.slice none 0 0, .slice none 0 0] 37)
      rw [hw2] at M2 ⊢
      clear M1 hw2
      clear c0 c1 e0 e1 m0 m1 m2 m3 m4 m5 m6 m7 m8 m9 m10 d0 d1 f0 f1 ltc ltm ltd
      obtain ⟨⟨c0, c1⟩, ⟨e0, e1⟩, ltc⟩ := M2.out.box2 0 rfl
      obtain ⟨⟨m0, m1, m2, m3, m4, m5, m6, m7, m8, m9, m10⟩, _, ltm⟩ := M2.out.box11 1 rfl
      obtain ⟨⟨d0, d1⟩, ⟨f0, f1⟩, ltd⟩ := M2.out.box2 2 rfl
      obtain ⟨⟨g0, g1⟩, ⟨j0, j1⟩, ltg⟩ := M2.out.box2 3 rfl
      have yc0 : w2.drew.cell? ⟨w.heap.size, 0, none⟩ = some (.slice HA hn hc) := c0
      have yc1 : w2.drew.cell? ⟨w.heap.size, 1, none⟩ = some (.slice GA gn gc) := c1
      have ym0 : w2.drew.cell? ⟨w.heap.size + 1, 0, none⟩ = some (.int .i64 1) := m0
      have ym1 : w2.drew.cell? ⟨w.heap.size + 1, 1, none⟩ = some ((.string nm)) := m1
      have ym2 : w2.drew.cell? ⟨w.heap.size + 1, 2, none⟩ = some (.int .i64 a) := m2
      have ym3 : w2.drew.cell? ⟨w.heap.size + 1, 3, none⟩ = some (.int .i64 b) := m3
      have ym4 : w2.drew.cell? ⟨w.heap.size + 1, 4, none⟩ = some (.int .i64 dr) := m4
      have ym5 : w2.drew.cell? ⟨w.heap.size + 1, 5, none⟩ = some (.int .i64 dl) := m5
      have ym6 : w2.drew.cell? ⟨w.heap.size + 1, 6, none⟩ = some (.int .i64 dc) := m6
      have ym7 : w2.drew.cell? ⟨w.heap.size + 1, 7, none⟩ = some (.int .i64 dg) := m7
      have ym8 : w2.drew.cell? ⟨w.heap.size + 1, 8, none⟩ = some (.int .i64 cm) := m8
      have ym9 : w2.drew.cell? ⟨w.heap.size + 1, 9, none⟩ = some (.int .i64 cc) := m9
      have ym10 : w2.drew.cell? ⟨w.heap.size + 1, 10, none⟩ = some (.bool up) := m10
      have yH : Held w w2.drew := M2.out.held.drew
      have yW : Held w w2 := M2.out.held
      go_region_held3 (fun w' => w'.cell? ⟨w.heap.size, 0, none⟩ = some (.slice HA hn hc) ∧ w'.cell? ⟨w.heap.size, 1, none⟩ = some (.slice GA gn gc) ∧ w'.cell? ⟨w.heap.size + 1, 0, none⟩ = some (.int .i64 1) ∧ w'.cell? ⟨w.heap.size + 1, 1, none⟩ = some ((.string nm)) ∧ w'.cell? ⟨w.heap.size + 1, 2, none⟩ = some (.int .i64 a) ∧ w'.cell? ⟨w.heap.size + 1, 3, none⟩ = some (.int .i64 b) ∧ w'.cell? ⟨w.heap.size + 1, 4, none⟩ = some (.int .i64 dr) ∧ w'.cell? ⟨w.heap.size + 1, 5, none⟩ = some (.int .i64 dl) ∧ w'.cell? ⟨w.heap.size + 1, 6, none⟩ = some (.int .i64 dc) ∧ w'.cell? ⟨w.heap.size + 1, 7, none⟩ = some (.int .i64 dg) ∧ w'.cell? ⟨w.heap.size + 1, 8, none⟩ = some (.int .i64 cm) ∧ w'.cell? ⟨w.heap.size + 1, 9, none⟩ = some (.int .i64 cc) ∧ w'.cell? ⟨w.heap.size + 1, 10, none⟩ = some (.bool up) ∧ Held w w')
        ((repeat' refine And.intro ?_ ?_) <;> with_reducible assumption)
        (first | (go_at_call 34; refine (clone_any HA hn hc GA gn gc r w2.drew (HR.out.held M2.out.held.drew) hhn hgn).mono ?_; rintro e w5 ⟨v1, v2, rfl, o5⟩; have k5 : Held w2 w5 := (Held.refl w2).drew.step o5.held; obtain ⟨A5, cp5, rfl, _, _⟩ := (o5.row 0 rfl).shape; obtain ⟨B5, dp5, rfl, _, _⟩ := (o5.row 1 rfl).shape; have M5 := Lib.hid (M2.out.keep k5); have vc0 := Held.cell k5 c0; have vc1 := Held.cell k5 c1; have vm0 := Held.cell k5 m0; have vm1 := Held.cell k5 m1; have vm2 := Held.cell k5 m2; have vm3 := Held.cell k5 m3; have vm4 := Held.cell k5 m4; have vm5 := Held.cell k5 m5; have vm6 := Held.cell k5 m6; have vm7 := Held.cell k5 m7; have vm8 := Held.cell k5 m8; have vm9 := Held.cell k5 m9; have vm10 := Held.cell k5 m10; have vH : Held w w5 := M5.out.held) | (go_at_call 36; refine (add_any w2.drew _ _ r 1 nm a b dr dl dc dg cm cc up w5 o5 HSRT.out (by omega) (by omega) hnl).mono ?_; rintro e w6 ⟨A6, n6, q6, B6, t6, u6, rfl, h6, ho6⟩; rw [HXX.out] at ho6 ⊢; have k6 : Held w2 w6 := (Held.refl w2).drew.step h6; have M6 := Lib.hid (M2.out.keep k6); obtain ⟨⟨g0', g1'⟩, ⟨j0', j1'⟩, ltg'⟩ := M6.out.box2 3 rfl; have xc0 := Held.cell k6 c0; have xc1 := Held.cell k6 c1; have xm0 := Held.cell k6 m0; have xm1 := Held.cell k6 m1; have xm2 := Held.cell k6 m2; have xm3 := Held.cell k6 m3; have xm4 := Held.cell k6 m4; have xm5 := Held.cell k6 m5; have xm6 := Held.cell k6 m6; have xm7 := Held.cell k6 m7; have xm8 := Held.cell k6 m8; have xm9 := Held.cell k6 m9; have xm10 := Held.cell k6 m10; have xH : Held w w6 := M6.out.held; have MP := (M6.out.put 3 rfl 0 (.slice A6 n6 q6)).put 3 rfl 1 (.slice B6 t6 u6); have zc0 : ((w6.setCell ⟨w1.heap.size, 0, none⟩ (.slice A6 n6 q6)).setCell ⟨w1.heap.size, 1, none⟩ (.slice B6 t6 u6)).cell? ⟨w.heap.size, 0, none⟩ = some (.slice HA hn hc) := MP.cell 0 rfl 0 rfl; have zc1 : ((w6.setCell ⟨w1.heap.size, 0, none⟩ (.slice A6 n6 q6)).setCell ⟨w1.heap.size, 1, none⟩ (.slice B6 t6 u6)).cell? ⟨w.heap.size, 1, none⟩ = some (.slice GA gn gc) := MP.cell 0 rfl 1 rfl; have zm0 : ((w6.setCell ⟨w1.heap.size, 0, none⟩ (.slice A6 n6 q6)).setCell ⟨w1.heap.size, 1, none⟩ (.slice B6 t6 u6)).cell? ⟨w.heap.size + 1, 0, none⟩ = some (.int .i64 1) := MP.cell 1 rfl 0 rfl; have zm1 : ((w6.setCell ⟨w1.heap.size, 0, none⟩ (.slice A6 n6 q6)).setCell ⟨w1.heap.size, 1, none⟩ (.slice B6 t6 u6)).cell? ⟨w.heap.size + 1, 1, none⟩ = some ((.string nm)) := MP.cell 1 rfl 1 rfl; have zm2 : ((w6.setCell ⟨w1.heap.size, 0, none⟩ (.slice A6 n6 q6)).setCell ⟨w1.heap.size, 1, none⟩ (.slice B6 t6 u6)).cell? ⟨w.heap.size + 1, 2, none⟩ = some (.int .i64 a) := MP.cell 1 rfl 2 rfl; have zm3 : ((w6.setCell ⟨w1.heap.size, 0, none⟩ (.slice A6 n6 q6)).setCell ⟨w1.heap.size, 1, none⟩ (.slice B6 t6 u6)).cell? ⟨w.heap.size + 1, 3, none⟩ = some (.int .i64 b) := MP.cell 1 rfl 3 rfl; have zm4 : ((w6.setCell ⟨w1.heap.size, 0, none⟩ (.slice A6 n6 q6)).setCell ⟨w1.heap.size, 1, none⟩ (.slice B6 t6 u6)).cell? ⟨w.heap.size + 1, 4, none⟩ = some (.int .i64 dr) := MP.cell 1 rfl 4 rfl; have zm5 : ((w6.setCell ⟨w1.heap.size, 0, none⟩ (.slice A6 n6 q6)).setCell ⟨w1.heap.size, 1, none⟩ (.slice B6 t6 u6)).cell? ⟨w.heap.size + 1, 5, none⟩ = some (.int .i64 dl) := MP.cell 1 rfl 5 rfl; have zm6 : ((w6.setCell ⟨w1.heap.size, 0, none⟩ (.slice A6 n6 q6)).setCell ⟨w1.heap.size, 1, none⟩ (.slice B6 t6 u6)).cell? ⟨w.heap.size + 1, 6, none⟩ = some (.int .i64 dc) := MP.cell 1 rfl 6 rfl; have zm7 : ((w6.setCell ⟨w1.heap.size, 0, none⟩ (.slice A6 n6 q6)).setCell ⟨w1.heap.size, 1, none⟩ (.slice B6 t6 u6)).cell? ⟨w.heap.size + 1, 7, none⟩ = some (.int .i64 dg) := MP.cell 1 rfl 7 rfl; have zm8 : ((w6.setCell ⟨w1.heap.size, 0, none⟩ (.slice A6 n6 q6)).setCell ⟨w1.heap.size, 1, none⟩ (.slice B6 t6 u6)).cell? ⟨w.heap.size + 1, 8, none⟩ = some (.int .i64 cm) := MP.cell 1 rfl 8 rfl; have zm9 : ((w6.setCell ⟨w1.heap.size, 0, none⟩ (.slice A6 n6 q6)).setCell ⟨w1.heap.size, 1, none⟩ (.slice B6 t6 u6)).cell? ⟨w.heap.size + 1, 9, none⟩ = some (.int .i64 cc) := MP.cell 1 rfl 9 rfl; have zm10 : ((w6.setCell ⟨w1.heap.size, 0, none⟩ (.slice A6 n6 q6)).setCell ⟨w1.heap.size, 1, none⟩ (.slice B6 t6 u6)).cell? ⟨w.heap.size + 1, 10, none⟩ = some (.bool up) := MP.cell 1 rfl 10 rfl; have zH := MP.held; clear MP))
      clear yc0 yc1 ym0 ym1 ym2 ym3 ym4 ym5 ym6 ym7 ym8 ym9 ym10 yH yW vc0 vc1 vm0 vm1 vm2 vm3 vm4 vm5 vm6 vm7 vm8 vm9 vm10 vH xc0 xc1 xm0 xm1 xm2 xm3 xm4 xm5 xm6 xm7 xm8 xm9 xm10 xH zc0 zc1 zm0 zm1 zm2 zm3 zm4 zm5 zm6 zm7 zm8 zm9 zm10 zH
      have ho := ho6 (by simp)
      have MA := Lib.hid (((M2.out.drew.own h6 (ho.row 0 rfl)).put 3 rfl 0 (.slice A6 n6 q6)).put 3 rfl 1 (.slice B6 t6 u6))
      have MB := Lib.hid (((M2.out.drew.own h6 (ho.row 1 rfl)).put 3 rfl 0 (.slice A6 n6 q6)).put 3 rfl 1 (.slice B6 t6 u6))
      clear M2 M5 M6 ho ho6
      clear c0 c1 e0 e1 m0 m1 m2 m3 m4 m5 m6 m7 m8 m9 m10 d0 d1 f0 f1 ltc ltm ltd
      clear g0 g1 j0 j1 ltg
      clear g0' g1' j0' j1' ltg'
      obtain ⟨w7, hw7⟩ : ∃ w7, (w6.setCell ⟨w1.heap.size, 0, none⟩ (.slice A6 n6 q6)).setCell ⟨w1.heap.size, 1, none⟩ (.slice B6 t6 u6) = w7 := ⟨_, rfl⟩
      rw [hw7] at MA MB ⊢
      clear hw7
      obtain ⟨⟨g0, g1⟩, ⟨j0, j1⟩, ltg⟩ := MA.out.box2 3 rfl
      obtain ⟨⟨d0, d1⟩, ⟨f0, f1⟩, ltd⟩ := MA.out.box2 2 rfl
      go_wp2
      have MFA := (MA.out.put 2 rfl 0 (.slice A6 n6 q6)).put 2 rfl 1 (.slice B6 t6 u6)
      have MFB := (MB.out.put 2 rfl 0 (.slice A6 n6 q6)).put 2 rfl 1 (.slice B6 t6 u6)
      refine bodyPost_ret (Bx.res_ct Try.results12 rfl (reg_load (MFA.blk 2 rfl))) rfl ?_
      rw [HAPP.out]
      exact ⟨_, _, _, _, _, _, rfl, MFA.held, ⟨(Own.reads capC_len (MFA.row 4 rfl)).1, (Own.reads plC_len (MFB.row 4 rfl)).1⟩, Caps.of (MFA.row 4 rfl) (MFB.row 4 rfl), own_fresh (MFA.row 4 rfl), own_fresh (MFB.row 4 rfl)⟩
    · have heb : (er != 0) = true := by simp [he]
      have hec : (er == 0) = false := by simp [he]
      have HAPP : Is (apply r ⟨1, nm, a, b, ⟨dr, dl, dc, dg⟩, ⟨cm, cc, up⟩⟩) (r, er) := ⟨apply_errI HAPP0.out he⟩
      clear he HAPP0
      go_enter Try.func12, Try.ntmps12
      go_wp2_with fail
      rw [HEQ.out]
      refine HVAL.out.mono ?_
      rintro e w1 ⟨rfl, h1⟩
      have M1 := Lib.hid (M.out.keep h1)
      clear M h1 HVAL
      clear c0 c1 e0 e1 m0 m1 m2 m3 m4 m5 m6 m7 m8 m9 m10 d0 d1 f0 f1 ltc ltm ltd
      obtain ⟨⟨c0, c1⟩, ⟨e0, e1⟩, ltc⟩ := M1.out.box2 0 rfl
      obtain ⟨⟨m0, m1, m2, m3, m4, m5, m6, m7, m8, m9, m10⟩, _, ltm⟩ := M1.out.box11 1 rfl
      obtain ⟨⟨d0, d1⟩, ⟨f0, f1⟩, ltd⟩ := M1.out.box2 2 rfl
      go_wp2
      obtain ⟨w2, hw2⟩ : ∃ w2, w1.alloc (.cells #[.slice none 0 0, .slice none 0 0] 37) = w2 := ⟨_, rfl⟩
      have M2 := Lib.hid (M1.out.alloc' (b := w1.heap.size) rfl #[.slice none 0 0, .slice none 0 0] 37)
      rw [hw2] at M2 ⊢
      clear M1 hw2
      clear c0 c1 e0 e1 m0 m1 m2 m3 m4 m5 m6 m7 m8 m9 m10 d0 d1 f0 f1 ltc ltm ltd
      obtain ⟨⟨c0, c1⟩, ⟨e0, e1⟩, ltc⟩ := M2.out.box2 0 rfl
      obtain ⟨⟨m0, m1, m2, m3, m4, m5, m6, m7, m8, m9, m10⟩, _, ltm⟩ := M2.out.box11 1 rfl
      obtain ⟨⟨d0, d1⟩, ⟨f0, f1⟩, ltd⟩ := M2.out.box2 2 rfl
      obtain ⟨⟨g0, g1⟩, ⟨j0, j1⟩, ltg⟩ := M2.out.box2 3 rfl
      have yc0 : w2.drew.cell? ⟨w.heap.size, 0, none⟩ = some (.slice HA hn hc) := c0
      have yc1 : w2.drew.cell? ⟨w.heap.size, 1, none⟩ = some (.slice GA gn gc) := c1
      have ym0 : w2.drew.cell? ⟨w.heap.size + 1, 0, none⟩ = some (.int .i64 1) := m0
      have ym1 : w2.drew.cell? ⟨w.heap.size + 1, 1, none⟩ = some ((.string nm)) := m1
      have ym2 : w2.drew.cell? ⟨w.heap.size + 1, 2, none⟩ = some (.int .i64 a) := m2
      have ym3 : w2.drew.cell? ⟨w.heap.size + 1, 3, none⟩ = some (.int .i64 b) := m3
      have ym4 : w2.drew.cell? ⟨w.heap.size + 1, 4, none⟩ = some (.int .i64 dr) := m4
      have ym5 : w2.drew.cell? ⟨w.heap.size + 1, 5, none⟩ = some (.int .i64 dl) := m5
      have ym6 : w2.drew.cell? ⟨w.heap.size + 1, 6, none⟩ = some (.int .i64 dc) := m6
      have ym7 : w2.drew.cell? ⟨w.heap.size + 1, 7, none⟩ = some (.int .i64 dg) := m7
      have ym8 : w2.drew.cell? ⟨w.heap.size + 1, 8, none⟩ = some (.int .i64 cm) := m8
      have ym9 : w2.drew.cell? ⟨w.heap.size + 1, 9, none⟩ = some (.int .i64 cc) := m9
      have ym10 : w2.drew.cell? ⟨w.heap.size + 1, 10, none⟩ = some (.bool up) := m10
      have yH : Held w w2.drew := M2.out.held.drew
      have yW : Held w w2 := M2.out.held
      go_region_held3 (fun w' => w'.cell? ⟨w.heap.size, 0, none⟩ = some (.slice HA hn hc) ∧ w'.cell? ⟨w.heap.size, 1, none⟩ = some (.slice GA gn gc) ∧ w'.cell? ⟨w.heap.size + 1, 0, none⟩ = some (.int .i64 1) ∧ w'.cell? ⟨w.heap.size + 1, 1, none⟩ = some ((.string nm)) ∧ w'.cell? ⟨w.heap.size + 1, 2, none⟩ = some (.int .i64 a) ∧ w'.cell? ⟨w.heap.size + 1, 3, none⟩ = some (.int .i64 b) ∧ w'.cell? ⟨w.heap.size + 1, 4, none⟩ = some (.int .i64 dr) ∧ w'.cell? ⟨w.heap.size + 1, 5, none⟩ = some (.int .i64 dl) ∧ w'.cell? ⟨w.heap.size + 1, 6, none⟩ = some (.int .i64 dc) ∧ w'.cell? ⟨w.heap.size + 1, 7, none⟩ = some (.int .i64 dg) ∧ w'.cell? ⟨w.heap.size + 1, 8, none⟩ = some (.int .i64 cm) ∧ w'.cell? ⟨w.heap.size + 1, 9, none⟩ = some (.int .i64 cc) ∧ w'.cell? ⟨w.heap.size + 1, 10, none⟩ = some (.bool up) ∧ Held w w')
        ((repeat' refine And.intro ?_ ?_) <;> with_reducible assumption)
        (first | (go_at_call 34; refine (clone_any HA hn hc GA gn gc r w2.drew (HR.out.held M2.out.held.drew) hhn hgn).mono ?_; rintro e w5 ⟨v1, v2, rfl, o5⟩; have k5 : Held w2 w5 := (Held.refl w2).drew.step o5.held; obtain ⟨A5, cp5, rfl, _, _⟩ := (o5.row 0 rfl).shape; obtain ⟨B5, dp5, rfl, _, _⟩ := (o5.row 1 rfl).shape; have M5 := Lib.hid (M2.out.keep k5); have vc0 := Held.cell k5 c0; have vc1 := Held.cell k5 c1; have vm0 := Held.cell k5 m0; have vm1 := Held.cell k5 m1; have vm2 := Held.cell k5 m2; have vm3 := Held.cell k5 m3; have vm4 := Held.cell k5 m4; have vm5 := Held.cell k5 m5; have vm6 := Held.cell k5 m6; have vm7 := Held.cell k5 m7; have vm8 := Held.cell k5 m8; have vm9 := Held.cell k5 m9; have vm10 := Held.cell k5 m10; have vH : Held w w5 := M5.out.held) | (go_at_call 36; refine (add_any w2.drew _ _ r 1 nm a b dr dl dc dg cm cc up w5 o5 HSRT.out (by omega) (by omega) hnl).mono ?_; rintro e w6 ⟨A6, n6, q6, B6, t6, u6, rfl, h6, ho6⟩; rw [HXX.out] at ho6 ⊢; have k6 : Held w2 w6 := (Held.refl w2).drew.step h6; have M6 := Lib.hid (M2.out.keep k6); obtain ⟨⟨g0', g1'⟩, ⟨j0', j1'⟩, ltg'⟩ := M6.out.box2 3 rfl; have xc0 := Held.cell k6 c0; have xc1 := Held.cell k6 c1; have xm0 := Held.cell k6 m0; have xm1 := Held.cell k6 m1; have xm2 := Held.cell k6 m2; have xm3 := Held.cell k6 m3; have xm4 := Held.cell k6 m4; have xm5 := Held.cell k6 m5; have xm6 := Held.cell k6 m6; have xm7 := Held.cell k6 m7; have xm8 := Held.cell k6 m8; have xm9 := Held.cell k6 m9; have xm10 := Held.cell k6 m10; have xH : Held w w6 := M6.out.held; have MP := (M6.out.put 3 rfl 0 (.slice A6 n6 q6)).put 3 rfl 1 (.slice B6 t6 u6); have zc0 : ((w6.setCell ⟨w1.heap.size, 0, none⟩ (.slice A6 n6 q6)).setCell ⟨w1.heap.size, 1, none⟩ (.slice B6 t6 u6)).cell? ⟨w.heap.size, 0, none⟩ = some (.slice HA hn hc) := MP.cell 0 rfl 0 rfl; have zc1 : ((w6.setCell ⟨w1.heap.size, 0, none⟩ (.slice A6 n6 q6)).setCell ⟨w1.heap.size, 1, none⟩ (.slice B6 t6 u6)).cell? ⟨w.heap.size, 1, none⟩ = some (.slice GA gn gc) := MP.cell 0 rfl 1 rfl; have zm0 : ((w6.setCell ⟨w1.heap.size, 0, none⟩ (.slice A6 n6 q6)).setCell ⟨w1.heap.size, 1, none⟩ (.slice B6 t6 u6)).cell? ⟨w.heap.size + 1, 0, none⟩ = some (.int .i64 1) := MP.cell 1 rfl 0 rfl; have zm1 : ((w6.setCell ⟨w1.heap.size, 0, none⟩ (.slice A6 n6 q6)).setCell ⟨w1.heap.size, 1, none⟩ (.slice B6 t6 u6)).cell? ⟨w.heap.size + 1, 1, none⟩ = some ((.string nm)) := MP.cell 1 rfl 1 rfl; have zm2 : ((w6.setCell ⟨w1.heap.size, 0, none⟩ (.slice A6 n6 q6)).setCell ⟨w1.heap.size, 1, none⟩ (.slice B6 t6 u6)).cell? ⟨w.heap.size + 1, 2, none⟩ = some (.int .i64 a) := MP.cell 1 rfl 2 rfl; have zm3 : ((w6.setCell ⟨w1.heap.size, 0, none⟩ (.slice A6 n6 q6)).setCell ⟨w1.heap.size, 1, none⟩ (.slice B6 t6 u6)).cell? ⟨w.heap.size + 1, 3, none⟩ = some (.int .i64 b) := MP.cell 1 rfl 3 rfl; have zm4 : ((w6.setCell ⟨w1.heap.size, 0, none⟩ (.slice A6 n6 q6)).setCell ⟨w1.heap.size, 1, none⟩ (.slice B6 t6 u6)).cell? ⟨w.heap.size + 1, 4, none⟩ = some (.int .i64 dr) := MP.cell 1 rfl 4 rfl; have zm5 : ((w6.setCell ⟨w1.heap.size, 0, none⟩ (.slice A6 n6 q6)).setCell ⟨w1.heap.size, 1, none⟩ (.slice B6 t6 u6)).cell? ⟨w.heap.size + 1, 5, none⟩ = some (.int .i64 dl) := MP.cell 1 rfl 5 rfl; have zm6 : ((w6.setCell ⟨w1.heap.size, 0, none⟩ (.slice A6 n6 q6)).setCell ⟨w1.heap.size, 1, none⟩ (.slice B6 t6 u6)).cell? ⟨w.heap.size + 1, 6, none⟩ = some (.int .i64 dc) := MP.cell 1 rfl 6 rfl; have zm7 : ((w6.setCell ⟨w1.heap.size, 0, none⟩ (.slice A6 n6 q6)).setCell ⟨w1.heap.size, 1, none⟩ (.slice B6 t6 u6)).cell? ⟨w.heap.size + 1, 7, none⟩ = some (.int .i64 dg) := MP.cell 1 rfl 7 rfl; have zm8 : ((w6.setCell ⟨w1.heap.size, 0, none⟩ (.slice A6 n6 q6)).setCell ⟨w1.heap.size, 1, none⟩ (.slice B6 t6 u6)).cell? ⟨w.heap.size + 1, 8, none⟩ = some (.int .i64 cm) := MP.cell 1 rfl 8 rfl; have zm9 : ((w6.setCell ⟨w1.heap.size, 0, none⟩ (.slice A6 n6 q6)).setCell ⟨w1.heap.size, 1, none⟩ (.slice B6 t6 u6)).cell? ⟨w.heap.size + 1, 9, none⟩ = some (.int .i64 cc) := MP.cell 1 rfl 9 rfl; have zm10 : ((w6.setCell ⟨w1.heap.size, 0, none⟩ (.slice A6 n6 q6)).setCell ⟨w1.heap.size, 1, none⟩ (.slice B6 t6 u6)).cell? ⟨w.heap.size + 1, 10, none⟩ = some (.bool up) := MP.cell 1 rfl 10 rfl; have zH := MP.held; clear MP))
      clear yc0 yc1 ym0 ym1 ym2 ym3 ym4 ym5 ym6 ym7 ym8 ym9 ym10 yH yW vc0 vc1 vm0 vm1 vm2 vm3 vm4 vm5 vm6 vm7 vm8 vm9 vm10 vH xc0 xc1 xm0 xm1 xm2 xm3 xm4 xm5 xm6 xm7 xm8 xm9 xm10 xH zc0 zc1 zm0 zm1 zm2 zm3 zm4 zm5 zm6 zm7 zm8 zm9 zm10 zH
      have M7 := Lib.hid ((M6.out.put 3 rfl 0 (.slice A6 n6 q6)).put 3 rfl 1 (.slice B6 t6 u6))
      clear M2 M5 M6 ho6
      clear c0 c1 e0 e1 m0 m1 m2 m3 m4 m5 m6 m7 m8 m9 m10 d0 d1 f0 f1 ltc ltm ltd
      clear g0 g1 j0 j1 ltg
      clear g0' g1' j0' j1' ltg'
      obtain ⟨w7, hw7⟩ : ∃ w7, (w6.setCell ⟨w1.heap.size, 0, none⟩ (.slice A6 n6 q6)).setCell ⟨w1.heap.size, 1, none⟩ (.slice B6 t6 u6) = w7 := ⟨_, rfl⟩
      rw [hw7] at M7 ⊢
      clear hw7
      obtain ⟨⟨c0, c1⟩, ⟨e0, e1⟩, ltc⟩ := M7.out.box2 0 rfl
      obtain ⟨⟨m0, m1, m2, m3, m4, m5, m6, m7, m8, m9, m10⟩, _, ltm⟩ := M7.out.box11 1 rfl
      obtain ⟨⟨d0, d1⟩, ⟨f0, f1⟩, ltd⟩ := M7.out.box2 2 rfl
      obtain ⟨⟨g0, g1⟩, ⟨j0, j1⟩, ltg⟩ := M7.out.box2 3 rfl
      go_wp2_with fail
      refine (clone_any HA hn hc GA gn gc r _ (HR.out.held M7.out.held) hhn hgn).mono ?_
      rintro e w9 ⟨v1, v2, rfl, o9⟩
      obtain ⟨A9, cp9, rfl, _, _⟩ := (o9.row 0 rfl).shape
      obtain ⟨B9, dp9, rfl, _, _⟩ := (o9.row 1 rfl).shape
      have MA := M7.out.own o9.held (o9.row 0 rfl)
      have MB := M7.out.own o9.held (o9.row 1 rfl)
      have M9 := Lib.hid (M7.out.keep o9.held)
      have hl1 : r.hs.length = r.hs.length := rfl
      clear M7 hl1
      clear c0 c1 e0 e1 m0 m1 m2 m3 m4 m5 m6 m7 m8 m9 m10 d0 d1 f0 f1 ltc ltm ltd
      clear g0 g1 j0 j1 ltg
      obtain ⟨⟨d0, d1⟩, ⟨f0, f1⟩, ltd⟩ := M9.out.box2 2 rfl
      go_wp2
      have MFA := (MA.put 2 rfl 0 (.slice A9 r.hs.length cp9)).put 2 rfl 1 (.slice B9 r.gs.length dp9)
      have MFB := (MB.put 2 rfl 0 (.slice A9 r.hs.length cp9)).put 2 rfl 1 (.slice B9 r.gs.length dp9)
      refine bodyPost_ret (Bx.res_ct Try.results12 rfl (reg_load (MFA.blk 2 rfl))) rfl ?_
      rw [HAPP.out]
      exact ⟨_, _, _, _, _, _, rfl, MFA.held, ⟨(Own.reads capC_len (MFA.row 4 rfl)).1, (Own.reads plC_len (MFB.row 4 rfl)).1⟩, Caps.of (MFA.row 4 rfl) (MFB.row 4 rfl), own_fresh (MFA.row 4 rfl), own_fresh (MFB.row 4 rfl)⟩
  by_cases k2 : k = 2
  · subst k2
    obtain ⟨⟨r', er⟩, hxx⟩ : ∃ x, remove r ⟨2, nm, a, b, ⟨dr, dl, dc, dg⟩, ⟨cm, cc, up⟩⟩ = x := ⟨_, rfl⟩
    have HXX : Is (remove r ⟨2, nm, a, b, ⟨dr, dl, dc, dg⟩, ⟨cm, cc, up⟩⟩) (r', er) := ⟨hxx⟩
    have HAPP0 : Is (apply r ⟨2, nm, a, b, ⟨dr, dl, dc, dg⟩, ⟨cm, cc, up⟩⟩) (r', er) := ⟨by rw [apply_2 HVR.out rfl, hxx]⟩
    clear hxx
    by_cases he : er = 0
    · subst he
      have HAPP := HAPP0
      clear HAPP0
      go_enter Try.func12, Try.ntmps12
      go_wp2_with fail
      rw [HEQ.out]
      refine HVAL.out.mono ?_
      rintro e w1 ⟨rfl, h1⟩
      have M1 := Lib.hid (M.out.keep h1)
      clear M h1 HVAL
      clear c0 c1 e0 e1 m0 m1 m2 m3 m4 m5 m6 m7 m8 m9 m10 d0 d1 f0 f1 ltc ltm ltd
      obtain ⟨⟨c0, c1⟩, ⟨e0, e1⟩, ltc⟩ := M1.out.box2 0 rfl
      obtain ⟨⟨m0, m1, m2, m3, m4, m5, m6, m7, m8, m9, m10⟩, _, ltm⟩ := M1.out.box11 1 rfl
      obtain ⟨⟨d0, d1⟩, ⟨f0, f1⟩, ltd⟩ := M1.out.box2 2 rfl
      go_wp2
      obtain ⟨w2, hw2⟩ : ∃ w2, w1.alloc (.cells #[.slice none 0 0, .slice none 0 0] 37) = w2 := ⟨_, rfl⟩
      have M2 := Lib.hid (M1.out.alloc' (b := w1.heap.size) rfl #[.slice none 0 0, .slice none 0 0] 37)
      rw [hw2] at M2 ⊢
      clear M1 hw2
      clear c0 c1 e0 e1 m0 m1 m2 m3 m4 m5 m6 m7 m8 m9 m10 d0 d1 f0 f1 ltc ltm ltd
      obtain ⟨⟨c0, c1⟩, ⟨e0, e1⟩, ltc⟩ := M2.out.box2 0 rfl
      obtain ⟨⟨m0, m1, m2, m3, m4, m5, m6, m7, m8, m9, m10⟩, _, ltm⟩ := M2.out.box11 1 rfl
      obtain ⟨⟨d0, d1⟩, ⟨f0, f1⟩, ltd⟩ := M2.out.box2 2 rfl
      obtain ⟨⟨g0, g1⟩, ⟨j0, j1⟩, ltg⟩ := M2.out.box2 3 rfl
      have yc0 : w2.drew.cell? ⟨w.heap.size, 0, none⟩ = some (.slice HA hn hc) := c0
      have yc1 : w2.drew.cell? ⟨w.heap.size, 1, none⟩ = some (.slice GA gn gc) := c1
      have ym0 : w2.drew.cell? ⟨w.heap.size + 1, 0, none⟩ = some (.int .i64 2) := m0
      have ym1 : w2.drew.cell? ⟨w.heap.size + 1, 1, none⟩ = some ((.string nm)) := m1
      have ym2 : w2.drew.cell? ⟨w.heap.size + 1, 2, none⟩ = some (.int .i64 a) := m2
      have ym3 : w2.drew.cell? ⟨w.heap.size + 1, 3, none⟩ = some (.int .i64 b) := m3
      have ym4 : w2.drew.cell? ⟨w.heap.size + 1, 4, none⟩ = some (.int .i64 dr) := m4
      have ym5 : w2.drew.cell? ⟨w.heap.size + 1, 5, none⟩ = some (.int .i64 dl) := m5
      have ym6 : w2.drew.cell? ⟨w.heap.size + 1, 6, none⟩ = some (.int .i64 dc) := m6
      have ym7 : w2.drew.cell? ⟨w.heap.size + 1, 7, none⟩ = some (.int .i64 dg) := m7
      have ym8 : w2.drew.cell? ⟨w.heap.size + 1, 8, none⟩ = some (.int .i64 cm) := m8
      have ym9 : w2.drew.cell? ⟨w.heap.size + 1, 9, none⟩ = some (.int .i64 cc) := m9
      have ym10 : w2.drew.cell? ⟨w.heap.size + 1, 10, none⟩ = some (.bool up) := m10
      have yH : Held w w2.drew := M2.out.held.drew
      have yW : Held w w2 := M2.out.held
      go_region_held3 (fun w' => w'.cell? ⟨w.heap.size, 0, none⟩ = some (.slice HA hn hc) ∧ w'.cell? ⟨w.heap.size, 1, none⟩ = some (.slice GA gn gc) ∧ w'.cell? ⟨w.heap.size + 1, 0, none⟩ = some (.int .i64 2) ∧ w'.cell? ⟨w.heap.size + 1, 1, none⟩ = some ((.string nm)) ∧ w'.cell? ⟨w.heap.size + 1, 2, none⟩ = some (.int .i64 a) ∧ w'.cell? ⟨w.heap.size + 1, 3, none⟩ = some (.int .i64 b) ∧ w'.cell? ⟨w.heap.size + 1, 4, none⟩ = some (.int .i64 dr) ∧ w'.cell? ⟨w.heap.size + 1, 5, none⟩ = some (.int .i64 dl) ∧ w'.cell? ⟨w.heap.size + 1, 6, none⟩ = some (.int .i64 dc) ∧ w'.cell? ⟨w.heap.size + 1, 7, none⟩ = some (.int .i64 dg) ∧ w'.cell? ⟨w.heap.size + 1, 8, none⟩ = some (.int .i64 cm) ∧ w'.cell? ⟨w.heap.size + 1, 9, none⟩ = some (.int .i64 cc) ∧ w'.cell? ⟨w.heap.size + 1, 10, none⟩ = some (.bool up) ∧ Held w w')
        ((repeat' refine And.intro ?_ ?_) <;> with_reducible assumption)
        (first | (go_at_call 34; refine (clone_any HA hn hc GA gn gc r w2.drew (HR.out.held M2.out.held.drew) hhn hgn).mono ?_; rintro e w5 ⟨v1, v2, rfl, o5⟩; have k5 : Held w2 w5 := (Held.refl w2).drew.step o5.held; obtain ⟨A5, cp5, rfl, _, _⟩ := (o5.row 0 rfl).shape; obtain ⟨B5, dp5, rfl, _, _⟩ := (o5.row 1 rfl).shape; have M5 := Lib.hid (M2.out.keep k5); have vc0 := Held.cell k5 c0; have vc1 := Held.cell k5 c1; have vm0 := Held.cell k5 m0; have vm1 := Held.cell k5 m1; have vm2 := Held.cell k5 m2; have vm3 := Held.cell k5 m3; have vm4 := Held.cell k5 m4; have vm5 := Held.cell k5 m5; have vm6 := Held.cell k5 m6; have vm7 := Held.cell k5 m7; have vm8 := Held.cell k5 m8; have vm9 := Held.cell k5 m9; have vm10 := Held.cell k5 m10; have vH : Held w w5 := M5.out.held) | (go_at_call 37; refine (remove_any w2.drew _ _ r 2 nm a b dr dl dc dg cm cc up w5 o5 HSRT.out (by omega)).mono ?_; rintro e w6 ⟨A6, n6, q6, B6, t6, u6, rfl, h6, ho6⟩; rw [HXX.out] at ho6 ⊢; have k6 : Held w2 w6 := (Held.refl w2).drew.step h6; have M6 := Lib.hid (M2.out.keep k6); obtain ⟨⟨g0', g1'⟩, ⟨j0', j1'⟩, ltg'⟩ := M6.out.box2 3 rfl; have xc0 := Held.cell k6 c0; have xc1 := Held.cell k6 c1; have xm0 := Held.cell k6 m0; have xm1 := Held.cell k6 m1; have xm2 := Held.cell k6 m2; have xm3 := Held.cell k6 m3; have xm4 := Held.cell k6 m4; have xm5 := Held.cell k6 m5; have xm6 := Held.cell k6 m6; have xm7 := Held.cell k6 m7; have xm8 := Held.cell k6 m8; have xm9 := Held.cell k6 m9; have xm10 := Held.cell k6 m10; have xH : Held w w6 := M6.out.held; have MP := (M6.out.put 3 rfl 0 (.slice A6 n6 q6)).put 3 rfl 1 (.slice B6 t6 u6); have zc0 : ((w6.setCell ⟨w1.heap.size, 0, none⟩ (.slice A6 n6 q6)).setCell ⟨w1.heap.size, 1, none⟩ (.slice B6 t6 u6)).cell? ⟨w.heap.size, 0, none⟩ = some (.slice HA hn hc) := MP.cell 0 rfl 0 rfl; have zc1 : ((w6.setCell ⟨w1.heap.size, 0, none⟩ (.slice A6 n6 q6)).setCell ⟨w1.heap.size, 1, none⟩ (.slice B6 t6 u6)).cell? ⟨w.heap.size, 1, none⟩ = some (.slice GA gn gc) := MP.cell 0 rfl 1 rfl; have zm0 : ((w6.setCell ⟨w1.heap.size, 0, none⟩ (.slice A6 n6 q6)).setCell ⟨w1.heap.size, 1, none⟩ (.slice B6 t6 u6)).cell? ⟨w.heap.size + 1, 0, none⟩ = some (.int .i64 2) := MP.cell 1 rfl 0 rfl; have zm1 : ((w6.setCell ⟨w1.heap.size, 0, none⟩ (.slice A6 n6 q6)).setCell ⟨w1.heap.size, 1, none⟩ (.slice B6 t6 u6)).cell? ⟨w.heap.size + 1, 1, none⟩ = some ((.string nm)) := MP.cell 1 rfl 1 rfl; have zm2 : ((w6.setCell ⟨w1.heap.size, 0, none⟩ (.slice A6 n6 q6)).setCell ⟨w1.heap.size, 1, none⟩ (.slice B6 t6 u6)).cell? ⟨w.heap.size + 1, 2, none⟩ = some (.int .i64 a) := MP.cell 1 rfl 2 rfl; have zm3 : ((w6.setCell ⟨w1.heap.size, 0, none⟩ (.slice A6 n6 q6)).setCell ⟨w1.heap.size, 1, none⟩ (.slice B6 t6 u6)).cell? ⟨w.heap.size + 1, 3, none⟩ = some (.int .i64 b) := MP.cell 1 rfl 3 rfl; have zm4 : ((w6.setCell ⟨w1.heap.size, 0, none⟩ (.slice A6 n6 q6)).setCell ⟨w1.heap.size, 1, none⟩ (.slice B6 t6 u6)).cell? ⟨w.heap.size + 1, 4, none⟩ = some (.int .i64 dr) := MP.cell 1 rfl 4 rfl; have zm5 : ((w6.setCell ⟨w1.heap.size, 0, none⟩ (.slice A6 n6 q6)).setCell ⟨w1.heap.size, 1, none⟩ (.slice B6 t6 u6)).cell? ⟨w.heap.size + 1, 5, none⟩ = some (.int .i64 dl) := MP.cell 1 rfl 5 rfl; have zm6 : ((w6.setCell ⟨w1.heap.size, 0, none⟩ (.slice A6 n6 q6)).setCell ⟨w1.heap.size, 1, none⟩ (.slice B6 t6 u6)).cell? ⟨w.heap.size + 1, 6, none⟩ = some (.int .i64 dc) := MP.cell 1 rfl 6 rfl; have zm7 : ((w6.setCell ⟨w1.heap.size, 0, none⟩ (.slice A6 n6 q6)).setCell ⟨w1.heap.size, 1, none⟩ (.slice B6 t6 u6)).cell? ⟨w.heap.size + 1, 7, none⟩ = some (.int .i64 dg) := MP.cell 1 rfl 7 rfl; have zm8 : ((w6.setCell ⟨w1.heap.size, 0, none⟩ (.slice A6 n6 q6)).setCell ⟨w1.heap.size, 1, none⟩ (.slice B6 t6 u6)).cell? ⟨w.heap.size + 1, 8, none⟩ = some (.int .i64 cm) := MP.cell 1 rfl 8 rfl; have zm9 : ((w6.setCell ⟨w1.heap.size, 0, none⟩ (.slice A6 n6 q6)).setCell ⟨w1.heap.size, 1, none⟩ (.slice B6 t6 u6)).cell? ⟨w.heap.size + 1, 9, none⟩ = some (.int .i64 cc) := MP.cell 1 rfl 9 rfl; have zm10 : ((w6.setCell ⟨w1.heap.size, 0, none⟩ (.slice A6 n6 q6)).setCell ⟨w1.heap.size, 1, none⟩ (.slice B6 t6 u6)).cell? ⟨w.heap.size + 1, 10, none⟩ = some (.bool up) := MP.cell 1 rfl 10 rfl; have zH := MP.held; clear MP))
      clear yc0 yc1 ym0 ym1 ym2 ym3 ym4 ym5 ym6 ym7 ym8 ym9 ym10 yH yW vc0 vc1 vm0 vm1 vm2 vm3 vm4 vm5 vm6 vm7 vm8 vm9 vm10 vH xc0 xc1 xm0 xm1 xm2 xm3 xm4 xm5 xm6 xm7 xm8 xm9 xm10 xH zc0 zc1 zm0 zm1 zm2 zm3 zm4 zm5 zm6 zm7 zm8 zm9 zm10 zH
      have ho := ho6 (by simp)
      have MA := Lib.hid (((M2.out.drew.own h6 (ho.row 0 rfl)).put 3 rfl 0 (.slice A6 n6 q6)).put 3 rfl 1 (.slice B6 t6 u6))
      have MB := Lib.hid (((M2.out.drew.own h6 (ho.row 1 rfl)).put 3 rfl 0 (.slice A6 n6 q6)).put 3 rfl 1 (.slice B6 t6 u6))
      clear M2 M5 M6 ho ho6
      clear c0 c1 e0 e1 m0 m1 m2 m3 m4 m5 m6 m7 m8 m9 m10 d0 d1 f0 f1 ltc ltm ltd
      clear g0 g1 j0 j1 ltg
      clear g0' g1' j0' j1' ltg'
      obtain ⟨w7, hw7⟩ : ∃ w7, (w6.setCell ⟨w1.heap.size, 0, none⟩ (.slice A6 n6 q6)).setCell ⟨w1.heap.size, 1, none⟩ (.slice B6 t6 u6) = w7 := ⟨_, rfl⟩
      rw [hw7] at MA MB ⊢
      clear hw7
      obtain ⟨⟨g0, g1⟩, ⟨j0, j1⟩, ltg⟩ := MA.out.box2 3 rfl
      obtain ⟨⟨d0, d1⟩, ⟨f0, f1⟩, ltd⟩ := MA.out.box2 2 rfl
      go_wp2
      have MFA := (MA.out.put 2 rfl 0 (.slice A6 n6 q6)).put 2 rfl 1 (.slice B6 t6 u6)
      have MFB := (MB.out.put 2 rfl 0 (.slice A6 n6 q6)).put 2 rfl 1 (.slice B6 t6 u6)
      refine bodyPost_ret (Bx.res_ct Try.results12 rfl (reg_load (MFA.blk 2 rfl))) rfl ?_
      rw [HAPP.out]
      exact ⟨_, _, _, _, _, _, rfl, MFA.held, ⟨(Own.reads capC_len (MFA.row 4 rfl)).1, (Own.reads plC_len (MFB.row 4 rfl)).1⟩, Caps.of (MFA.row 4 rfl) (MFB.row 4 rfl), own_fresh (MFA.row 4 rfl), own_fresh (MFB.row 4 rfl)⟩
    · have heb : (er != 0) = true := by simp [he]
      have hec : (er == 0) = false := by simp [he]
      have HAPP : Is (apply r ⟨2, nm, a, b, ⟨dr, dl, dc, dg⟩, ⟨cm, cc, up⟩⟩) (r, er) := ⟨apply_errI HAPP0.out he⟩
      clear he HAPP0
      go_enter Try.func12, Try.ntmps12
      go_wp2_with fail
      rw [HEQ.out]
      refine HVAL.out.mono ?_
      rintro e w1 ⟨rfl, h1⟩
      have M1 := Lib.hid (M.out.keep h1)
      clear M h1 HVAL
      clear c0 c1 e0 e1 m0 m1 m2 m3 m4 m5 m6 m7 m8 m9 m10 d0 d1 f0 f1 ltc ltm ltd
      obtain ⟨⟨c0, c1⟩, ⟨e0, e1⟩, ltc⟩ := M1.out.box2 0 rfl
      obtain ⟨⟨m0, m1, m2, m3, m4, m5, m6, m7, m8, m9, m10⟩, _, ltm⟩ := M1.out.box11 1 rfl
      obtain ⟨⟨d0, d1⟩, ⟨f0, f1⟩, ltd⟩ := M1.out.box2 2 rfl
      go_wp2
      obtain ⟨w2, hw2⟩ : ∃ w2, w1.alloc (.cells #[.slice none 0 0, .slice none 0 0] 37) = w2 := ⟨_, rfl⟩
      have M2 := Lib.hid (M1.out.alloc' (b := w1.heap.size) rfl #[.slice none 0 0, .slice none 0 0] 37)
      rw [hw2] at M2 ⊢
      clear M1 hw2
      clear c0 c1 e0 e1 m0 m1 m2 m3 m4 m5 m6 m7 m8 m9 m10 d0 d1 f0 f1 ltc ltm ltd
      obtain ⟨⟨c0, c1⟩, ⟨e0, e1⟩, ltc⟩ := M2.out.box2 0 rfl
      obtain ⟨⟨m0, m1, m2, m3, m4, m5, m6, m7, m8, m9, m10⟩, _, ltm⟩ := M2.out.box11 1 rfl
      obtain ⟨⟨d0, d1⟩, ⟨f0, f1⟩, ltd⟩ := M2.out.box2 2 rfl
      obtain ⟨⟨g0, g1⟩, ⟨j0, j1⟩, ltg⟩ := M2.out.box2 3 rfl
      have yc0 : w2.drew.cell? ⟨w.heap.size, 0, none⟩ = some (.slice HA hn hc) := c0
      have yc1 : w2.drew.cell? ⟨w.heap.size, 1, none⟩ = some (.slice GA gn gc) := c1
      have ym0 : w2.drew.cell? ⟨w.heap.size + 1, 0, none⟩ = some (.int .i64 2) := m0
      have ym1 : w2.drew.cell? ⟨w.heap.size + 1, 1, none⟩ = some ((.string nm)) := m1
      have ym2 : w2.drew.cell? ⟨w.heap.size + 1, 2, none⟩ = some (.int .i64 a) := m2
      have ym3 : w2.drew.cell? ⟨w.heap.size + 1, 3, none⟩ = some (.int .i64 b) := m3
      have ym4 : w2.drew.cell? ⟨w.heap.size + 1, 4, none⟩ = some (.int .i64 dr) := m4
      have ym5 : w2.drew.cell? ⟨w.heap.size + 1, 5, none⟩ = some (.int .i64 dl) := m5
      have ym6 : w2.drew.cell? ⟨w.heap.size + 1, 6, none⟩ = some (.int .i64 dc) := m6
      have ym7 : w2.drew.cell? ⟨w.heap.size + 1, 7, none⟩ = some (.int .i64 dg) := m7
      have ym8 : w2.drew.cell? ⟨w.heap.size + 1, 8, none⟩ = some (.int .i64 cm) := m8
      have ym9 : w2.drew.cell? ⟨w.heap.size + 1, 9, none⟩ = some (.int .i64 cc) := m9
      have ym10 : w2.drew.cell? ⟨w.heap.size + 1, 10, none⟩ = some (.bool up) := m10
      have yH : Held w w2.drew := M2.out.held.drew
      have yW : Held w w2 := M2.out.held
      go_region_held3 (fun w' => w'.cell? ⟨w.heap.size, 0, none⟩ = some (.slice HA hn hc) ∧ w'.cell? ⟨w.heap.size, 1, none⟩ = some (.slice GA gn gc) ∧ w'.cell? ⟨w.heap.size + 1, 0, none⟩ = some (.int .i64 2) ∧ w'.cell? ⟨w.heap.size + 1, 1, none⟩ = some ((.string nm)) ∧ w'.cell? ⟨w.heap.size + 1, 2, none⟩ = some (.int .i64 a) ∧ w'.cell? ⟨w.heap.size + 1, 3, none⟩ = some (.int .i64 b) ∧ w'.cell? ⟨w.heap.size + 1, 4, none⟩ = some (.int .i64 dr) ∧ w'.cell? ⟨w.heap.size + 1, 5, none⟩ = some (.int .i64 dl) ∧ w'.cell? ⟨w.heap.size + 1, 6, none⟩ = some (.int .i64 dc) ∧ w'.cell? ⟨w.heap.size + 1, 7, none⟩ = some (.int .i64 dg) ∧ w'.cell? ⟨w.heap.size + 1, 8, none⟩ = some (.int .i64 cm) ∧ w'.cell? ⟨w.heap.size + 1, 9, none⟩ = some (.int .i64 cc) ∧ w'.cell? ⟨w.heap.size + 1, 10, none⟩ = some (.bool up) ∧ Held w w')
        ((repeat' refine And.intro ?_ ?_) <;> with_reducible assumption)
        (first | (go_at_call 34; refine (clone_any HA hn hc GA gn gc r w2.drew (HR.out.held M2.out.held.drew) hhn hgn).mono ?_; rintro e w5 ⟨v1, v2, rfl, o5⟩; have k5 : Held w2 w5 := (Held.refl w2).drew.step o5.held; obtain ⟨A5, cp5, rfl, _, _⟩ := (o5.row 0 rfl).shape; obtain ⟨B5, dp5, rfl, _, _⟩ := (o5.row 1 rfl).shape; have M5 := Lib.hid (M2.out.keep k5); have vc0 := Held.cell k5 c0; have vc1 := Held.cell k5 c1; have vm0 := Held.cell k5 m0; have vm1 := Held.cell k5 m1; have vm2 := Held.cell k5 m2; have vm3 := Held.cell k5 m3; have vm4 := Held.cell k5 m4; have vm5 := Held.cell k5 m5; have vm6 := Held.cell k5 m6; have vm7 := Held.cell k5 m7; have vm8 := Held.cell k5 m8; have vm9 := Held.cell k5 m9; have vm10 := Held.cell k5 m10; have vH : Held w w5 := M5.out.held) | (go_at_call 37; refine (remove_any w2.drew _ _ r 2 nm a b dr dl dc dg cm cc up w5 o5 HSRT.out (by omega)).mono ?_; rintro e w6 ⟨A6, n6, q6, B6, t6, u6, rfl, h6, ho6⟩; rw [HXX.out] at ho6 ⊢; have k6 : Held w2 w6 := (Held.refl w2).drew.step h6; have M6 := Lib.hid (M2.out.keep k6); obtain ⟨⟨g0', g1'⟩, ⟨j0', j1'⟩, ltg'⟩ := M6.out.box2 3 rfl; have xc0 := Held.cell k6 c0; have xc1 := Held.cell k6 c1; have xm0 := Held.cell k6 m0; have xm1 := Held.cell k6 m1; have xm2 := Held.cell k6 m2; have xm3 := Held.cell k6 m3; have xm4 := Held.cell k6 m4; have xm5 := Held.cell k6 m5; have xm6 := Held.cell k6 m6; have xm7 := Held.cell k6 m7; have xm8 := Held.cell k6 m8; have xm9 := Held.cell k6 m9; have xm10 := Held.cell k6 m10; have xH : Held w w6 := M6.out.held; have MP := (M6.out.put 3 rfl 0 (.slice A6 n6 q6)).put 3 rfl 1 (.slice B6 t6 u6); have zc0 : ((w6.setCell ⟨w1.heap.size, 0, none⟩ (.slice A6 n6 q6)).setCell ⟨w1.heap.size, 1, none⟩ (.slice B6 t6 u6)).cell? ⟨w.heap.size, 0, none⟩ = some (.slice HA hn hc) := MP.cell 0 rfl 0 rfl; have zc1 : ((w6.setCell ⟨w1.heap.size, 0, none⟩ (.slice A6 n6 q6)).setCell ⟨w1.heap.size, 1, none⟩ (.slice B6 t6 u6)).cell? ⟨w.heap.size, 1, none⟩ = some (.slice GA gn gc) := MP.cell 0 rfl 1 rfl; have zm0 : ((w6.setCell ⟨w1.heap.size, 0, none⟩ (.slice A6 n6 q6)).setCell ⟨w1.heap.size, 1, none⟩ (.slice B6 t6 u6)).cell? ⟨w.heap.size + 1, 0, none⟩ = some (.int .i64 2) := MP.cell 1 rfl 0 rfl; have zm1 : ((w6.setCell ⟨w1.heap.size, 0, none⟩ (.slice A6 n6 q6)).setCell ⟨w1.heap.size, 1, none⟩ (.slice B6 t6 u6)).cell? ⟨w.heap.size + 1, 1, none⟩ = some ((.string nm)) := MP.cell 1 rfl 1 rfl; have zm2 : ((w6.setCell ⟨w1.heap.size, 0, none⟩ (.slice A6 n6 q6)).setCell ⟨w1.heap.size, 1, none⟩ (.slice B6 t6 u6)).cell? ⟨w.heap.size + 1, 2, none⟩ = some (.int .i64 a) := MP.cell 1 rfl 2 rfl; have zm3 : ((w6.setCell ⟨w1.heap.size, 0, none⟩ (.slice A6 n6 q6)).setCell ⟨w1.heap.size, 1, none⟩ (.slice B6 t6 u6)).cell? ⟨w.heap.size + 1, 3, none⟩ = some (.int .i64 b) := MP.cell 1 rfl 3 rfl; have zm4 : ((w6.setCell ⟨w1.heap.size, 0, none⟩ (.slice A6 n6 q6)).setCell ⟨w1.heap.size, 1, none⟩ (.slice B6 t6 u6)).cell? ⟨w.heap.size + 1, 4, none⟩ = some (.int .i64 dr) := MP.cell 1 rfl 4 rfl; have zm5 : ((w6.setCell ⟨w1.heap.size, 0, none⟩ (.slice A6 n6 q6)).setCell ⟨w1.heap.size, 1, none⟩ (.slice B6 t6 u6)).cell? ⟨w.heap.size + 1, 5, none⟩ = some (.int .i64 dl) := MP.cell 1 rfl 5 rfl; have zm6 : ((w6.setCell ⟨w1.heap.size, 0, none⟩ (.slice A6 n6 q6)).setCell ⟨w1.heap.size, 1, none⟩ (.slice B6 t6 u6)).cell? ⟨w.heap.size + 1, 6, none⟩ = some (.int .i64 dc) := MP.cell 1 rfl 6 rfl; have zm7 : ((w6.setCell ⟨w1.heap.size, 0, none⟩ (.slice A6 n6 q6)).setCell ⟨w1.heap.size, 1, none⟩ (.slice B6 t6 u6)).cell? ⟨w.heap.size + 1, 7, none⟩ = some (.int .i64 dg) := MP.cell 1 rfl 7 rfl; have zm8 : ((w6.setCell ⟨w1.heap.size, 0, none⟩ (.slice A6 n6 q6)).setCell ⟨w1.heap.size, 1, none⟩ (.slice B6 t6 u6)).cell? ⟨w.heap.size + 1, 8, none⟩ = some (.int .i64 cm) := MP.cell 1 rfl 8 rfl; have zm9 : ((w6.setCell ⟨w1.heap.size, 0, none⟩ (.slice A6 n6 q6)).setCell ⟨w1.heap.size, 1, none⟩ (.slice B6 t6 u6)).cell? ⟨w.heap.size + 1, 9, none⟩ = some (.int .i64 cc) := MP.cell 1 rfl 9 rfl; have zm10 : ((w6.setCell ⟨w1.heap.size, 0, none⟩ (.slice A6 n6 q6)).setCell ⟨w1.heap.size, 1, none⟩ (.slice B6 t6 u6)).cell? ⟨w.heap.size + 1, 10, none⟩ = some (.bool up) := MP.cell 1 rfl 10 rfl; have zH := MP.held; clear MP))
      clear yc0 yc1 ym0 ym1 ym2 ym3 ym4 ym5 ym6 ym7 ym8 ym9 ym10 yH yW vc0 vc1 vm0 vm1 vm2 vm3 vm4 vm5 vm6 vm7 vm8 vm9 vm10 vH xc0 xc1 xm0 xm1 xm2 xm3 xm4 xm5 xm6 xm7 xm8 xm9 xm10 xH zc0 zc1 zm0 zm1 zm2 zm3 zm4 zm5 zm6 zm7 zm8 zm9 zm10 zH
      have M7 := Lib.hid ((M6.out.put 3 rfl 0 (.slice A6 n6 q6)).put 3 rfl 1 (.slice B6 t6 u6))
      clear M2 M5 M6 ho6
      clear c0 c1 e0 e1 m0 m1 m2 m3 m4 m5 m6 m7 m8 m9 m10 d0 d1 f0 f1 ltc ltm ltd
      clear g0 g1 j0 j1 ltg
      clear g0' g1' j0' j1' ltg'
      obtain ⟨w7, hw7⟩ : ∃ w7, (w6.setCell ⟨w1.heap.size, 0, none⟩ (.slice A6 n6 q6)).setCell ⟨w1.heap.size, 1, none⟩ (.slice B6 t6 u6) = w7 := ⟨_, rfl⟩
      rw [hw7] at M7 ⊢
      clear hw7
      obtain ⟨⟨c0, c1⟩, ⟨e0, e1⟩, ltc⟩ := M7.out.box2 0 rfl
      obtain ⟨⟨m0, m1, m2, m3, m4, m5, m6, m7, m8, m9, m10⟩, _, ltm⟩ := M7.out.box11 1 rfl
      obtain ⟨⟨d0, d1⟩, ⟨f0, f1⟩, ltd⟩ := M7.out.box2 2 rfl
      obtain ⟨⟨g0, g1⟩, ⟨j0, j1⟩, ltg⟩ := M7.out.box2 3 rfl
      go_wp2_with fail
      refine (clone_any HA hn hc GA gn gc r _ (HR.out.held M7.out.held) hhn hgn).mono ?_
      rintro e w9 ⟨v1, v2, rfl, o9⟩
      obtain ⟨A9, cp9, rfl, _, _⟩ := (o9.row 0 rfl).shape
      obtain ⟨B9, dp9, rfl, _, _⟩ := (o9.row 1 rfl).shape
      have MA := M7.out.own o9.held (o9.row 0 rfl)
      have MB := M7.out.own o9.held (o9.row 1 rfl)
      have M9 := Lib.hid (M7.out.keep o9.held)
      have hl1 : r.hs.length = r.hs.length := rfl
      clear M7 hl1
      clear c0 c1 e0 e1 m0 m1 m2 m3 m4 m5 m6 m7 m8 m9 m10 d0 d1 f0 f1 ltc ltm ltd
      clear g0 g1 j0 j1 ltg
      obtain ⟨⟨d0, d1⟩, ⟨f0, f1⟩, ltd⟩ := M9.out.box2 2 rfl
      go_wp2
      have MFA := (MA.put 2 rfl 0 (.slice A9 r.hs.length cp9)).put 2 rfl 1 (.slice B9 r.gs.length dp9)
      have MFB := (MB.put 2 rfl 0 (.slice A9 r.hs.length cp9)).put 2 rfl 1 (.slice B9 r.gs.length dp9)
      refine bodyPost_ret (Bx.res_ct Try.results12 rfl (reg_load (MFA.blk 2 rfl))) rfl ?_
      rw [HAPP.out]
      exact ⟨_, _, _, _, _, _, rfl, MFA.held, ⟨(Own.reads capC_len (MFA.row 4 rfl)).1, (Own.reads plC_len (MFB.row 4 rfl)).1⟩, Caps.of (MFA.row 4 rfl) (MFB.row 4 rfl), own_fresh (MFA.row 4 rfl), own_fresh (MFB.row 4 rfl)⟩
  by_cases k3 : k = 3
  · subst k3
    obtain ⟨⟨r', er⟩, hxx⟩ : ∃ x, move r ⟨3, nm, a, b, ⟨dr, dl, dc, dg⟩, ⟨cm, cc, up⟩⟩ = x := ⟨_, rfl⟩
    have HXX : Is (move r ⟨3, nm, a, b, ⟨dr, dl, dc, dg⟩, ⟨cm, cc, up⟩⟩) (r', er) := ⟨hxx⟩
    have HAPP0 : Is (apply r ⟨3, nm, a, b, ⟨dr, dl, dc, dg⟩, ⟨cm, cc, up⟩⟩) (r', er) := ⟨by rw [apply_3 HVR.out rfl, hxx]⟩
    clear hxx
    by_cases he : er = 0
    · subst he
      have HAPP := HAPP0
      clear HAPP0
      go_enter Try.func12, Try.ntmps12
      go_wp2_with fail
      rw [HEQ.out]
      refine HVAL.out.mono ?_
      rintro e w1 ⟨rfl, h1⟩
      have M1 := Lib.hid (M.out.keep h1)
      clear M h1 HVAL
      clear c0 c1 e0 e1 m0 m1 m2 m3 m4 m5 m6 m7 m8 m9 m10 d0 d1 f0 f1 ltc ltm ltd
      obtain ⟨⟨c0, c1⟩, ⟨e0, e1⟩, ltc⟩ := M1.out.box2 0 rfl
      obtain ⟨⟨m0, m1, m2, m3, m4, m5, m6, m7, m8, m9, m10⟩, _, ltm⟩ := M1.out.box11 1 rfl
      obtain ⟨⟨d0, d1⟩, ⟨f0, f1⟩, ltd⟩ := M1.out.box2 2 rfl
      go_wp2
      obtain ⟨w2, hw2⟩ : ∃ w2, w1.alloc (.cells #[.slice none 0 0, .slice none 0 0] 37) = w2 := ⟨_, rfl⟩
      have M2 := Lib.hid (M1.out.alloc' (b := w1.heap.size) rfl #[.slice none 0 0, .slice none 0 0] 37)
      rw [hw2] at M2 ⊢
      clear M1 hw2
      clear c0 c1 e0 e1 m0 m1 m2 m3 m4 m5 m6 m7 m8 m9 m10 d0 d1 f0 f1 ltc ltm ltd
      obtain ⟨⟨c0, c1⟩, ⟨e0, e1⟩, ltc⟩ := M2.out.box2 0 rfl
      obtain ⟨⟨m0, m1, m2, m3, m4, m5, m6, m7, m8, m9, m10⟩, _, ltm⟩ := M2.out.box11 1 rfl
      obtain ⟨⟨d0, d1⟩, ⟨f0, f1⟩, ltd⟩ := M2.out.box2 2 rfl
      obtain ⟨⟨g0, g1⟩, ⟨j0, j1⟩, ltg⟩ := M2.out.box2 3 rfl
      have yc0 : w2.drew.cell? ⟨w.heap.size, 0, none⟩ = some (.slice HA hn hc) := c0
      have yc1 : w2.drew.cell? ⟨w.heap.size, 1, none⟩ = some (.slice GA gn gc) := c1
      have ym0 : w2.drew.cell? ⟨w.heap.size + 1, 0, none⟩ = some (.int .i64 3) := m0
      have ym1 : w2.drew.cell? ⟨w.heap.size + 1, 1, none⟩ = some ((.string nm)) := m1
      have ym2 : w2.drew.cell? ⟨w.heap.size + 1, 2, none⟩ = some (.int .i64 a) := m2
      have ym3 : w2.drew.cell? ⟨w.heap.size + 1, 3, none⟩ = some (.int .i64 b) := m3
      have ym4 : w2.drew.cell? ⟨w.heap.size + 1, 4, none⟩ = some (.int .i64 dr) := m4
      have ym5 : w2.drew.cell? ⟨w.heap.size + 1, 5, none⟩ = some (.int .i64 dl) := m5
      have ym6 : w2.drew.cell? ⟨w.heap.size + 1, 6, none⟩ = some (.int .i64 dc) := m6
      have ym7 : w2.drew.cell? ⟨w.heap.size + 1, 7, none⟩ = some (.int .i64 dg) := m7
      have ym8 : w2.drew.cell? ⟨w.heap.size + 1, 8, none⟩ = some (.int .i64 cm) := m8
      have ym9 : w2.drew.cell? ⟨w.heap.size + 1, 9, none⟩ = some (.int .i64 cc) := m9
      have ym10 : w2.drew.cell? ⟨w.heap.size + 1, 10, none⟩ = some (.bool up) := m10
      have yH : Held w w2.drew := M2.out.held.drew
      have yW : Held w w2 := M2.out.held
      go_region_held3 (fun w' => w'.cell? ⟨w.heap.size, 0, none⟩ = some (.slice HA hn hc) ∧ w'.cell? ⟨w.heap.size, 1, none⟩ = some (.slice GA gn gc) ∧ w'.cell? ⟨w.heap.size + 1, 0, none⟩ = some (.int .i64 3) ∧ w'.cell? ⟨w.heap.size + 1, 1, none⟩ = some ((.string nm)) ∧ w'.cell? ⟨w.heap.size + 1, 2, none⟩ = some (.int .i64 a) ∧ w'.cell? ⟨w.heap.size + 1, 3, none⟩ = some (.int .i64 b) ∧ w'.cell? ⟨w.heap.size + 1, 4, none⟩ = some (.int .i64 dr) ∧ w'.cell? ⟨w.heap.size + 1, 5, none⟩ = some (.int .i64 dl) ∧ w'.cell? ⟨w.heap.size + 1, 6, none⟩ = some (.int .i64 dc) ∧ w'.cell? ⟨w.heap.size + 1, 7, none⟩ = some (.int .i64 dg) ∧ w'.cell? ⟨w.heap.size + 1, 8, none⟩ = some (.int .i64 cm) ∧ w'.cell? ⟨w.heap.size + 1, 9, none⟩ = some (.int .i64 cc) ∧ w'.cell? ⟨w.heap.size + 1, 10, none⟩ = some (.bool up) ∧ Held w w')
        ((repeat' refine And.intro ?_ ?_) <;> with_reducible assumption)
        (first | (go_at_call 34; refine (clone_any HA hn hc GA gn gc r w2.drew (HR.out.held M2.out.held.drew) hhn hgn).mono ?_; rintro e w5 ⟨v1, v2, rfl, o5⟩; have k5 : Held w2 w5 := (Held.refl w2).drew.step o5.held; obtain ⟨A5, cp5, rfl, _, _⟩ := (o5.row 0 rfl).shape; obtain ⟨B5, dp5, rfl, _, _⟩ := (o5.row 1 rfl).shape; have M5 := Lib.hid (M2.out.keep k5); have vc0 := Held.cell k5 c0; have vc1 := Held.cell k5 c1; have vm0 := Held.cell k5 m0; have vm1 := Held.cell k5 m1; have vm2 := Held.cell k5 m2; have vm3 := Held.cell k5 m3; have vm4 := Held.cell k5 m4; have vm5 := Held.cell k5 m5; have vm6 := Held.cell k5 m6; have vm7 := Held.cell k5 m7; have vm8 := Held.cell k5 m8; have vm9 := Held.cell k5 m9; have vm10 := Held.cell k5 m10; have vH : Held w w5 := M5.out.held) | (go_at_call 38; refine (move_any w2.drew _ _ r 3 nm a b dr dl dc dg cm cc up w5 o5 HSRT.out (by omega) (by omega)).mono ?_; rintro e w6 ⟨A6, n6, q6, B6, t6, u6, rfl, h6, ho6⟩; rw [HXX.out] at ho6 ⊢; have k6 : Held w2 w6 := (Held.refl w2).drew.step h6; have M6 := Lib.hid (M2.out.keep k6); obtain ⟨⟨g0', g1'⟩, ⟨j0', j1'⟩, ltg'⟩ := M6.out.box2 3 rfl; have xc0 := Held.cell k6 c0; have xc1 := Held.cell k6 c1; have xm0 := Held.cell k6 m0; have xm1 := Held.cell k6 m1; have xm2 := Held.cell k6 m2; have xm3 := Held.cell k6 m3; have xm4 := Held.cell k6 m4; have xm5 := Held.cell k6 m5; have xm6 := Held.cell k6 m6; have xm7 := Held.cell k6 m7; have xm8 := Held.cell k6 m8; have xm9 := Held.cell k6 m9; have xm10 := Held.cell k6 m10; have xH : Held w w6 := M6.out.held; have MP := (M6.out.put 3 rfl 0 (.slice A6 n6 q6)).put 3 rfl 1 (.slice B6 t6 u6); have zc0 : ((w6.setCell ⟨w1.heap.size, 0, none⟩ (.slice A6 n6 q6)).setCell ⟨w1.heap.size, 1, none⟩ (.slice B6 t6 u6)).cell? ⟨w.heap.size, 0, none⟩ = some (.slice HA hn hc) := MP.cell 0 rfl 0 rfl; have zc1 : ((w6.setCell ⟨w1.heap.size, 0, none⟩ (.slice A6 n6 q6)).setCell ⟨w1.heap.size, 1, none⟩ (.slice B6 t6 u6)).cell? ⟨w.heap.size, 1, none⟩ = some (.slice GA gn gc) := MP.cell 0 rfl 1 rfl; have zm0 : ((w6.setCell ⟨w1.heap.size, 0, none⟩ (.slice A6 n6 q6)).setCell ⟨w1.heap.size, 1, none⟩ (.slice B6 t6 u6)).cell? ⟨w.heap.size + 1, 0, none⟩ = some (.int .i64 3) := MP.cell 1 rfl 0 rfl; have zm1 : ((w6.setCell ⟨w1.heap.size, 0, none⟩ (.slice A6 n6 q6)).setCell ⟨w1.heap.size, 1, none⟩ (.slice B6 t6 u6)).cell? ⟨w.heap.size + 1, 1, none⟩ = some ((.string nm)) := MP.cell 1 rfl 1 rfl; have zm2 : ((w6.setCell ⟨w1.heap.size, 0, none⟩ (.slice A6 n6 q6)).setCell ⟨w1.heap.size, 1, none⟩ (.slice B6 t6 u6)).cell? ⟨w.heap.size + 1, 2, none⟩ = some (.int .i64 a) := MP.cell 1 rfl 2 rfl; have zm3 : ((w6.setCell ⟨w1.heap.size, 0, none⟩ (.slice A6 n6 q6)).setCell ⟨w1.heap.size, 1, none⟩ (.slice B6 t6 u6)).cell? ⟨w.heap.size + 1, 3, none⟩ = some (.int .i64 b) := MP.cell 1 rfl 3 rfl; have zm4 : ((w6.setCell ⟨w1.heap.size, 0, none⟩ (.slice A6 n6 q6)).setCell ⟨w1.heap.size, 1, none⟩ (.slice B6 t6 u6)).cell? ⟨w.heap.size + 1, 4, none⟩ = some (.int .i64 dr) := MP.cell 1 rfl 4 rfl; have zm5 : ((w6.setCell ⟨w1.heap.size, 0, none⟩ (.slice A6 n6 q6)).setCell ⟨w1.heap.size, 1, none⟩ (.slice B6 t6 u6)).cell? ⟨w.heap.size + 1, 5, none⟩ = some (.int .i64 dl) := MP.cell 1 rfl 5 rfl; have zm6 : ((w6.setCell ⟨w1.heap.size, 0, none⟩ (.slice A6 n6 q6)).setCell ⟨w1.heap.size, 1, none⟩ (.slice B6 t6 u6)).cell? ⟨w.heap.size + 1, 6, none⟩ = some (.int .i64 dc) := MP.cell 1 rfl 6 rfl; have zm7 : ((w6.setCell ⟨w1.heap.size, 0, none⟩ (.slice A6 n6 q6)).setCell ⟨w1.heap.size, 1, none⟩ (.slice B6 t6 u6)).cell? ⟨w.heap.size + 1, 7, none⟩ = some (.int .i64 dg) := MP.cell 1 rfl 7 rfl; have zm8 : ((w6.setCell ⟨w1.heap.size, 0, none⟩ (.slice A6 n6 q6)).setCell ⟨w1.heap.size, 1, none⟩ (.slice B6 t6 u6)).cell? ⟨w.heap.size + 1, 8, none⟩ = some (.int .i64 cm) := MP.cell 1 rfl 8 rfl; have zm9 : ((w6.setCell ⟨w1.heap.size, 0, none⟩ (.slice A6 n6 q6)).setCell ⟨w1.heap.size, 1, none⟩ (.slice B6 t6 u6)).cell? ⟨w.heap.size + 1, 9, none⟩ = some (.int .i64 cc) := MP.cell 1 rfl 9 rfl; have zm10 : ((w6.setCell ⟨w1.heap.size, 0, none⟩ (.slice A6 n6 q6)).setCell ⟨w1.heap.size, 1, none⟩ (.slice B6 t6 u6)).cell? ⟨w.heap.size + 1, 10, none⟩ = some (.bool up) := MP.cell 1 rfl 10 rfl; have zH := MP.held; clear MP))
      clear yc0 yc1 ym0 ym1 ym2 ym3 ym4 ym5 ym6 ym7 ym8 ym9 ym10 yH yW vc0 vc1 vm0 vm1 vm2 vm3 vm4 vm5 vm6 vm7 vm8 vm9 vm10 vH xc0 xc1 xm0 xm1 xm2 xm3 xm4 xm5 xm6 xm7 xm8 xm9 xm10 xH zc0 zc1 zm0 zm1 zm2 zm3 zm4 zm5 zm6 zm7 zm8 zm9 zm10 zH
      have ho := ho6 (by simp)
      have MA := Lib.hid (((M2.out.drew.own h6 (ho.row 0 rfl)).put 3 rfl 0 (.slice A6 n6 q6)).put 3 rfl 1 (.slice B6 t6 u6))
      have MB := Lib.hid (((M2.out.drew.own h6 (ho.row 1 rfl)).put 3 rfl 0 (.slice A6 n6 q6)).put 3 rfl 1 (.slice B6 t6 u6))
      clear M2 M5 M6 ho ho6
      clear c0 c1 e0 e1 m0 m1 m2 m3 m4 m5 m6 m7 m8 m9 m10 d0 d1 f0 f1 ltc ltm ltd
      clear g0 g1 j0 j1 ltg
      clear g0' g1' j0' j1' ltg'
      obtain ⟨w7, hw7⟩ : ∃ w7, (w6.setCell ⟨w1.heap.size, 0, none⟩ (.slice A6 n6 q6)).setCell ⟨w1.heap.size, 1, none⟩ (.slice B6 t6 u6) = w7 := ⟨_, rfl⟩
      rw [hw7] at MA MB ⊢
      clear hw7
      obtain ⟨⟨g0, g1⟩, ⟨j0, j1⟩, ltg⟩ := MA.out.box2 3 rfl
      obtain ⟨⟨d0, d1⟩, ⟨f0, f1⟩, ltd⟩ := MA.out.box2 2 rfl
      go_wp2
      have MFA := (MA.out.put 2 rfl 0 (.slice A6 n6 q6)).put 2 rfl 1 (.slice B6 t6 u6)
      have MFB := (MB.out.put 2 rfl 0 (.slice A6 n6 q6)).put 2 rfl 1 (.slice B6 t6 u6)
      refine bodyPost_ret (Bx.res_ct Try.results12 rfl (reg_load (MFA.blk 2 rfl))) rfl ?_
      rw [HAPP.out]
      exact ⟨_, _, _, _, _, _, rfl, MFA.held, ⟨(Own.reads capC_len (MFA.row 4 rfl)).1, (Own.reads plC_len (MFB.row 4 rfl)).1⟩, Caps.of (MFA.row 4 rfl) (MFB.row 4 rfl), own_fresh (MFA.row 4 rfl), own_fresh (MFB.row 4 rfl)⟩
    · have heb : (er != 0) = true := by simp [he]
      have hec : (er == 0) = false := by simp [he]
      have HAPP : Is (apply r ⟨3, nm, a, b, ⟨dr, dl, dc, dg⟩, ⟨cm, cc, up⟩⟩) (r, er) := ⟨apply_errI HAPP0.out he⟩
      clear he HAPP0
      go_enter Try.func12, Try.ntmps12
      go_wp2_with fail
      rw [HEQ.out]
      refine HVAL.out.mono ?_
      rintro e w1 ⟨rfl, h1⟩
      have M1 := Lib.hid (M.out.keep h1)
      clear M h1 HVAL
      clear c0 c1 e0 e1 m0 m1 m2 m3 m4 m5 m6 m7 m8 m9 m10 d0 d1 f0 f1 ltc ltm ltd
      obtain ⟨⟨c0, c1⟩, ⟨e0, e1⟩, ltc⟩ := M1.out.box2 0 rfl
      obtain ⟨⟨m0, m1, m2, m3, m4, m5, m6, m7, m8, m9, m10⟩, _, ltm⟩ := M1.out.box11 1 rfl
      obtain ⟨⟨d0, d1⟩, ⟨f0, f1⟩, ltd⟩ := M1.out.box2 2 rfl
      go_wp2
      obtain ⟨w2, hw2⟩ : ∃ w2, w1.alloc (.cells #[.slice none 0 0, .slice none 0 0] 37) = w2 := ⟨_, rfl⟩
      have M2 := Lib.hid (M1.out.alloc' (b := w1.heap.size) rfl #[.slice none 0 0, .slice none 0 0] 37)
      rw [hw2] at M2 ⊢
      clear M1 hw2
      clear c0 c1 e0 e1 m0 m1 m2 m3 m4 m5 m6 m7 m8 m9 m10 d0 d1 f0 f1 ltc ltm ltd
      obtain ⟨⟨c0, c1⟩, ⟨e0, e1⟩, ltc⟩ := M2.out.box2 0 rfl
      obtain ⟨⟨m0, m1, m2, m3, m4, m5, m6, m7, m8, m9, m10⟩, _, ltm⟩ := M2.out.box11 1 rfl
      obtain ⟨⟨d0, d1⟩, ⟨f0, f1⟩, ltd⟩ := M2.out.box2 2 rfl
      obtain ⟨⟨g0, g1⟩, ⟨j0, j1⟩, ltg⟩ := M2.out.box2 3 rfl
      have yc0 : w2.drew.cell? ⟨w.heap.size, 0, none⟩ = some (.slice HA hn hc) := c0
      have yc1 : w2.drew.cell? ⟨w.heap.size, 1, none⟩ = some (.slice GA gn gc) := c1
      have ym0 : w2.drew.cell? ⟨w.heap.size + 1, 0, none⟩ = some (.int .i64 3) := m0
      have ym1 : w2.drew.cell? ⟨w.heap.size + 1, 1, none⟩ = some ((.string nm)) := m1
      have ym2 : w2.drew.cell? ⟨w.heap.size + 1, 2, none⟩ = some (.int .i64 a) := m2
      have ym3 : w2.drew.cell? ⟨w.heap.size + 1, 3, none⟩ = some (.int .i64 b) := m3
      have ym4 : w2.drew.cell? ⟨w.heap.size + 1, 4, none⟩ = some (.int .i64 dr) := m4
      have ym5 : w2.drew.cell? ⟨w.heap.size + 1, 5, none⟩ = some (.int .i64 dl) := m5
      have ym6 : w2.drew.cell? ⟨w.heap.size + 1, 6, none⟩ = some (.int .i64 dc) := m6
      have ym7 : w2.drew.cell? ⟨w.heap.size + 1, 7, none⟩ = some (.int .i64 dg) := m7
      have ym8 : w2.drew.cell? ⟨w.heap.size + 1, 8, none⟩ = some (.int .i64 cm) := m8
      have ym9 : w2.drew.cell? ⟨w.heap.size + 1, 9, none⟩ = some (.int .i64 cc) := m9
      have ym10 : w2.drew.cell? ⟨w.heap.size + 1, 10, none⟩ = some (.bool up) := m10
      have yH : Held w w2.drew := M2.out.held.drew
      have yW : Held w w2 := M2.out.held
      go_region_held3 (fun w' => w'.cell? ⟨w.heap.size, 0, none⟩ = some (.slice HA hn hc) ∧ w'.cell? ⟨w.heap.size, 1, none⟩ = some (.slice GA gn gc) ∧ w'.cell? ⟨w.heap.size + 1, 0, none⟩ = some (.int .i64 3) ∧ w'.cell? ⟨w.heap.size + 1, 1, none⟩ = some ((.string nm)) ∧ w'.cell? ⟨w.heap.size + 1, 2, none⟩ = some (.int .i64 a) ∧ w'.cell? ⟨w.heap.size + 1, 3, none⟩ = some (.int .i64 b) ∧ w'.cell? ⟨w.heap.size + 1, 4, none⟩ = some (.int .i64 dr) ∧ w'.cell? ⟨w.heap.size + 1, 5, none⟩ = some (.int .i64 dl) ∧ w'.cell? ⟨w.heap.size + 1, 6, none⟩ = some (.int .i64 dc) ∧ w'.cell? ⟨w.heap.size + 1, 7, none⟩ = some (.int .i64 dg) ∧ w'.cell? ⟨w.heap.size + 1, 8, none⟩ = some (.int .i64 cm) ∧ w'.cell? ⟨w.heap.size + 1, 9, none⟩ = some (.int .i64 cc) ∧ w'.cell? ⟨w.heap.size + 1, 10, none⟩ = some (.bool up) ∧ Held w w')
        ((repeat' refine And.intro ?_ ?_) <;> with_reducible assumption)
        (first | (go_at_call 34; refine (clone_any HA hn hc GA gn gc r w2.drew (HR.out.held M2.out.held.drew) hhn hgn).mono ?_; rintro e w5 ⟨v1, v2, rfl, o5⟩; have k5 : Held w2 w5 := (Held.refl w2).drew.step o5.held; obtain ⟨A5, cp5, rfl, _, _⟩ := (o5.row 0 rfl).shape; obtain ⟨B5, dp5, rfl, _, _⟩ := (o5.row 1 rfl).shape; have M5 := Lib.hid (M2.out.keep k5); have vc0 := Held.cell k5 c0; have vc1 := Held.cell k5 c1; have vm0 := Held.cell k5 m0; have vm1 := Held.cell k5 m1; have vm2 := Held.cell k5 m2; have vm3 := Held.cell k5 m3; have vm4 := Held.cell k5 m4; have vm5 := Held.cell k5 m5; have vm6 := Held.cell k5 m6; have vm7 := Held.cell k5 m7; have vm8 := Held.cell k5 m8; have vm9 := Held.cell k5 m9; have vm10 := Held.cell k5 m10; have vH : Held w w5 := M5.out.held) | (go_at_call 38; refine (move_any w2.drew _ _ r 3 nm a b dr dl dc dg cm cc up w5 o5 HSRT.out (by omega) (by omega)).mono ?_; rintro e w6 ⟨A6, n6, q6, B6, t6, u6, rfl, h6, ho6⟩; rw [HXX.out] at ho6 ⊢; have k6 : Held w2 w6 := (Held.refl w2).drew.step h6; have M6 := Lib.hid (M2.out.keep k6); obtain ⟨⟨g0', g1'⟩, ⟨j0', j1'⟩, ltg'⟩ := M6.out.box2 3 rfl; have xc0 := Held.cell k6 c0; have xc1 := Held.cell k6 c1; have xm0 := Held.cell k6 m0; have xm1 := Held.cell k6 m1; have xm2 := Held.cell k6 m2; have xm3 := Held.cell k6 m3; have xm4 := Held.cell k6 m4; have xm5 := Held.cell k6 m5; have xm6 := Held.cell k6 m6; have xm7 := Held.cell k6 m7; have xm8 := Held.cell k6 m8; have xm9 := Held.cell k6 m9; have xm10 := Held.cell k6 m10; have xH : Held w w6 := M6.out.held; have MP := (M6.out.put 3 rfl 0 (.slice A6 n6 q6)).put 3 rfl 1 (.slice B6 t6 u6); have zc0 : ((w6.setCell ⟨w1.heap.size, 0, none⟩ (.slice A6 n6 q6)).setCell ⟨w1.heap.size, 1, none⟩ (.slice B6 t6 u6)).cell? ⟨w.heap.size, 0, none⟩ = some (.slice HA hn hc) := MP.cell 0 rfl 0 rfl; have zc1 : ((w6.setCell ⟨w1.heap.size, 0, none⟩ (.slice A6 n6 q6)).setCell ⟨w1.heap.size, 1, none⟩ (.slice B6 t6 u6)).cell? ⟨w.heap.size, 1, none⟩ = some (.slice GA gn gc) := MP.cell 0 rfl 1 rfl; have zm0 : ((w6.setCell ⟨w1.heap.size, 0, none⟩ (.slice A6 n6 q6)).setCell ⟨w1.heap.size, 1, none⟩ (.slice B6 t6 u6)).cell? ⟨w.heap.size + 1, 0, none⟩ = some (.int .i64 3) := MP.cell 1 rfl 0 rfl; have zm1 : ((w6.setCell ⟨w1.heap.size, 0, none⟩ (.slice A6 n6 q6)).setCell ⟨w1.heap.size, 1, none⟩ (.slice B6 t6 u6)).cell? ⟨w.heap.size + 1, 1, none⟩ = some ((.string nm)) := MP.cell 1 rfl 1 rfl; have zm2 : ((w6.setCell ⟨w1.heap.size, 0, none⟩ (.slice A6 n6 q6)).setCell ⟨w1.heap.size, 1, none⟩ (.slice B6 t6 u6)).cell? ⟨w.heap.size + 1, 2, none⟩ = some (.int .i64 a) := MP.cell 1 rfl 2 rfl; have zm3 : ((w6.setCell ⟨w1.heap.size, 0, none⟩ (.slice A6 n6 q6)).setCell ⟨w1.heap.size, 1, none⟩ (.slice B6 t6 u6)).cell? ⟨w.heap.size + 1, 3, none⟩ = some (.int .i64 b) := MP.cell 1 rfl 3 rfl; have zm4 : ((w6.setCell ⟨w1.heap.size, 0, none⟩ (.slice A6 n6 q6)).setCell ⟨w1.heap.size, 1, none⟩ (.slice B6 t6 u6)).cell? ⟨w.heap.size + 1, 4, none⟩ = some (.int .i64 dr) := MP.cell 1 rfl 4 rfl; have zm5 : ((w6.setCell ⟨w1.heap.size, 0, none⟩ (.slice A6 n6 q6)).setCell ⟨w1.heap.size, 1, none⟩ (.slice B6 t6 u6)).cell? ⟨w.heap.size + 1, 5, none⟩ = some (.int .i64 dl) := MP.cell 1 rfl 5 rfl; have zm6 : ((w6.setCell ⟨w1.heap.size, 0, none⟩ (.slice A6 n6 q6)).setCell ⟨w1.heap.size, 1, none⟩ (.slice B6 t6 u6)).cell? ⟨w.heap.size + 1, 6, none⟩ = some (.int .i64 dc) := MP.cell 1 rfl 6 rfl; have zm7 : ((w6.setCell ⟨w1.heap.size, 0, none⟩ (.slice A6 n6 q6)).setCell ⟨w1.heap.size, 1, none⟩ (.slice B6 t6 u6)).cell? ⟨w.heap.size + 1, 7, none⟩ = some (.int .i64 dg) := MP.cell 1 rfl 7 rfl; have zm8 : ((w6.setCell ⟨w1.heap.size, 0, none⟩ (.slice A6 n6 q6)).setCell ⟨w1.heap.size, 1, none⟩ (.slice B6 t6 u6)).cell? ⟨w.heap.size + 1, 8, none⟩ = some (.int .i64 cm) := MP.cell 1 rfl 8 rfl; have zm9 : ((w6.setCell ⟨w1.heap.size, 0, none⟩ (.slice A6 n6 q6)).setCell ⟨w1.heap.size, 1, none⟩ (.slice B6 t6 u6)).cell? ⟨w.heap.size + 1, 9, none⟩ = some (.int .i64 cc) := MP.cell 1 rfl 9 rfl; have zm10 : ((w6.setCell ⟨w1.heap.size, 0, none⟩ (.slice A6 n6 q6)).setCell ⟨w1.heap.size, 1, none⟩ (.slice B6 t6 u6)).cell? ⟨w.heap.size + 1, 10, none⟩ = some (.bool up) := MP.cell 1 rfl 10 rfl; have zH := MP.held; clear MP))
      clear yc0 yc1 ym0 ym1 ym2 ym3 ym4 ym5 ym6 ym7 ym8 ym9 ym10 yH yW vc0 vc1 vm0 vm1 vm2 vm3 vm4 vm5 vm6 vm7 vm8 vm9 vm10 vH xc0 xc1 xm0 xm1 xm2 xm3 xm4 xm5 xm6 xm7 xm8 xm9 xm10 xH zc0 zc1 zm0 zm1 zm2 zm3 zm4 zm5 zm6 zm7 zm8 zm9 zm10 zH
      have M7 := Lib.hid ((M6.out.put 3 rfl 0 (.slice A6 n6 q6)).put 3 rfl 1 (.slice B6 t6 u6))
      clear M2 M5 M6 ho6
      clear c0 c1 e0 e1 m0 m1 m2 m3 m4 m5 m6 m7 m8 m9 m10 d0 d1 f0 f1 ltc ltm ltd
      clear g0 g1 j0 j1 ltg
      clear g0' g1' j0' j1' ltg'
      obtain ⟨w7, hw7⟩ : ∃ w7, (w6.setCell ⟨w1.heap.size, 0, none⟩ (.slice A6 n6 q6)).setCell ⟨w1.heap.size, 1, none⟩ (.slice B6 t6 u6) = w7 := ⟨_, rfl⟩
      rw [hw7] at M7 ⊢
      clear hw7
      obtain ⟨⟨c0, c1⟩, ⟨e0, e1⟩, ltc⟩ := M7.out.box2 0 rfl
      obtain ⟨⟨m0, m1, m2, m3, m4, m5, m6, m7, m8, m9, m10⟩, _, ltm⟩ := M7.out.box11 1 rfl
      obtain ⟨⟨d0, d1⟩, ⟨f0, f1⟩, ltd⟩ := M7.out.box2 2 rfl
      obtain ⟨⟨g0, g1⟩, ⟨j0, j1⟩, ltg⟩ := M7.out.box2 3 rfl
      go_wp2_with fail
      refine (clone_any HA hn hc GA gn gc r _ (HR.out.held M7.out.held) hhn hgn).mono ?_
      rintro e w9 ⟨v1, v2, rfl, o9⟩
      obtain ⟨A9, cp9, rfl, _, _⟩ := (o9.row 0 rfl).shape
      obtain ⟨B9, dp9, rfl, _, _⟩ := (o9.row 1 rfl).shape
      have MA := M7.out.own o9.held (o9.row 0 rfl)
      have MB := M7.out.own o9.held (o9.row 1 rfl)
      have M9 := Lib.hid (M7.out.keep o9.held)
      have hl1 : r.hs.length = r.hs.length := rfl
      clear M7 hl1
      clear c0 c1 e0 e1 m0 m1 m2 m3 m4 m5 m6 m7 m8 m9 m10 d0 d1 f0 f1 ltc ltm ltd
      clear g0 g1 j0 j1 ltg
      obtain ⟨⟨d0, d1⟩, ⟨f0, f1⟩, ltd⟩ := M9.out.box2 2 rfl
      go_wp2
      have MFA := (MA.put 2 rfl 0 (.slice A9 r.hs.length cp9)).put 2 rfl 1 (.slice B9 r.gs.length dp9)
      have MFB := (MB.put 2 rfl 0 (.slice A9 r.hs.length cp9)).put 2 rfl 1 (.slice B9 r.gs.length dp9)
      refine bodyPost_ret (Bx.res_ct Try.results12 rfl (reg_load (MFA.blk 2 rfl))) rfl ?_
      rw [HAPP.out]
      exact ⟨_, _, _, _, _, _, rfl, MFA.held, ⟨(Own.reads capC_len (MFA.row 4 rfl)).1, (Own.reads plC_len (MFB.row 4 rfl)).1⟩, Caps.of (MFA.row 4 rfl) (MFB.row 4 rfl), own_fresh (MFA.row 4 rfl), own_fresh (MFB.row 4 rfl)⟩
  have HAPP : Is (apply r ⟨k, nm, a, b, ⟨dr, dl, dc, dg⟩, ⟨cm, cc, up⟩⟩) (r, 4200) := ⟨apply_else HVR.out k4 k1 k2 k3⟩
  have k4b : (k == 4) = false := by simp [k4]
  have k1b : (k == 1) = false := by simp [k1]
  have k2b : (k == 2) = false := by simp [k2]
  have k3b : (k == 3) = false := by simp [k3]
  clear k4 k1 k2 k3
  go_enter Try.func12, Try.ntmps12
  go_wp2_with fail
  rw [HEQ.out]
  refine HVAL.out.mono ?_
  rintro e w1 ⟨rfl, h1⟩
  have M1 := Lib.hid (M.out.keep h1)
  clear M h1 HVAL
  clear c0 c1 e0 e1 m0 m1 m2 m3 m4 m5 m6 m7 m8 m9 m10 d0 d1 f0 f1 ltc ltm ltd
  obtain ⟨⟨c0, c1⟩, ⟨e0, e1⟩, ltc⟩ := M1.out.box2 0 rfl
  obtain ⟨⟨m0, m1, m2, m3, m4, m5, m6, m7, m8, m9, m10⟩, _, ltm⟩ := M1.out.box11 1 rfl
  obtain ⟨⟨d0, d1⟩, ⟨f0, f1⟩, ltd⟩ := M1.out.box2 2 rfl
  go_wp2_with fail
  obtain ⟨w2, hw2⟩ : ∃ w2, w1.alloc (.cells #[.slice none 0 0, .slice none 0 0] 37) = w2 := ⟨_, rfl⟩
  have M2 := Lib.hid (M1.out.alloc' (b := w1.heap.size) rfl #[.slice none 0 0, .slice none 0 0] 37)
  rw [hw2] at M2 ⊢
  clear M1 hw2
  clear c0 c1 e0 e1 m0 m1 m2 m3 m4 m5 m6 m7 m8 m9 m10 d0 d1 f0 f1 ltc ltm ltd
  obtain ⟨⟨c0, c1⟩, ⟨e0, e1⟩, ltc⟩ := M2.out.box2 0 rfl
  obtain ⟨⟨m0, m1, m2, m3, m4, m5, m6, m7, m8, m9, m10⟩, _, ltm⟩ := M2.out.box11 1 rfl
  obtain ⟨⟨d0, d1⟩, ⟨f0, f1⟩, ltd⟩ := M2.out.box2 2 rfl
  obtain ⟨⟨g0, g1⟩, ⟨j0, j1⟩, ltg⟩ := M2.out.box2 3 rfl
  refine (clone_any HA hn hc GA gn gc r _ (HR.out.held M2.out.held) hhn hgn).mono ?_
  rintro e w9 ⟨v1, v2, rfl, o9⟩
  obtain ⟨A9, cp9, rfl, _, _⟩ := (o9.row 0 rfl).shape
  obtain ⟨B9, dp9, rfl, _, _⟩ := (o9.row 1 rfl).shape
  have MA := M2.out.own o9.held (o9.row 0 rfl)
  have MB := M2.out.own o9.held (o9.row 1 rfl)
  have M9 := Lib.hid (M2.out.keep o9.held)
  have hl1 : r.hs.length = r.hs.length := rfl
  clear M2 hl1
  clear c0 c1 e0 e1 m0 m1 m2 m3 m4 m5 m6 m7 m8 m9 m10 d0 d1 f0 f1 ltc ltm ltd
  clear g0 g1 j0 j1 ltg
  obtain ⟨⟨d0, d1⟩, ⟨f0, f1⟩, ltd⟩ := M9.out.box2 2 rfl
  go_wp2
  have MFA := (MA.put 2 rfl 0 (.slice A9 r.hs.length cp9)).put 2 rfl 1 (.slice B9 r.gs.length dp9)
  have MFB := (MB.put 2 rfl 0 (.slice A9 r.hs.length cp9)).put 2 rfl 1 (.slice B9 r.gs.length dp9)
  refine bodyPost_ret (Bx.res_ct Try.results12 rfl (reg_load (MFA.blk 2 rfl))) rfl ?_
  rw [HAPP.out]
  exact ⟨_, _, _, _, _, _, rfl, MFA.held, ⟨(Own.reads capC_len (MFA.row 4 rfl)).1, (Own.reads plC_len (MFB.row 4 rfl)).1⟩, Caps.of (MFA.row 4 rfl) (MFB.row 4 rfl), own_fresh (MFA.row 4 rfl), own_fresh (MFB.row 4 rfl)⟩
theorem apply_any (HA : Option Addr) (hn hc : Nat) (GA : Option Addr) (gn gc : Nat) (r : Reg) (k : Int) (nm : ByteArray) (a b dr dl dc dg cm cc : Int) (up : Bool) (w : World) (h : RegR w HA hn GA gn r) (hhn : (hn : Int) ≤ 1000000) (hgn : (gn : Int) ≤ 1000000) (hnm : ∀ p ∈ r.gs, (p.nm.size : Int) ≤ 1000000000) (hnl : (nm.size : Int) ≤ 1000000000) :
    Calls Try.prog 12 #[.agg #[.slice HA hn hc, .slice GA gn gc], .agg #[.int .i64 k, .string nm, .int .i64 a, .int .i64 b, .int .i64 dr, .int .i64 dl, .int .i64 dc, .int .i64 dg, .int .i64 cm, .int .i64 cc, .bool up]] w (ApTo (apply r ⟨k, nm, a, b, ⟨dr, dl, dc, dg⟩, ⟨cm, cc, up⟩⟩) w) :=
  (apply_fr HA hn hc GA gn gc r k nm a b dr dl dc dg cm cc up w h hhn hgn hnm hnl).mono fun _ _ ⟨A1, n1, c1, A2, n2, c2, he, hh, hr, hc, _, _⟩ => ⟨A1, n1, c1, A2, n2, c2, he, hh, hr, hc⟩
end Jn
end Go.Proofs.Ytmmnanmegdflgaa
