/-
  The laws of chapter 33: what they call besides.
-/
import Derived.Test.YtnmhmjcpiijkcaaNetF
import Derived.Test.YtnmhmjcpiijkcaaMkD
import Derived.Test.YtnmhmjcpiijkcaaMkR
import Derived.Test.YtnmhmjcpiijkcaaRw
set_option linter.unusedVariables false
set_option maxRecDepth 100000
namespace Go.Proofs.Ytnmhmjcpiijkcaa
open Go.RowKit
open By (bytes_back)
namespace Net
theorem two_back (w : World) (g cap : Nat) (a b : Nat) (ha : a < 256) (hb : b < 256) (h0 : w.cell? ⟨g, 0, none⟩ = some (.int .u8 (a : Int))) (h1 : w.cell? ⟨g, 1, none⟩ = some (.int .u8 (b : Int))) :
    (convert 39 9 (.slice (some ⟨g, 0, none⟩) 2 cap)).run Try.prog w = .ok (.string ⟨#[UInt8.ofNat a, UInt8.ofNat b]⟩) w := by
  have := bytes_back w ⟨g, 0, none⟩ cap [UInt8.ofNat a, UInt8.ofNat b] (fun j hj => by
    rw [By.addr_add]
    match j, hj with
    | 0, _ => rw [h0]; simp [UInt8.toNat_ofNat']; omega
    | 1, _ => rw [h1]; simp [UInt8.toNat_ofNat']; omega)
  exact this
theorem two_back' (w : World) (g cap : Nat) (A B : Int) (a b : Nat) (hA : A = a) (hB : B = b) (ha : a < 256) (hb : b < 256) (h0 : w.cell? ⟨g, 0, none⟩ = some (.int .u8 A)) (h1 : w.cell? ⟨g, 1, none⟩ = some (.int .u8 B)) :
    (convert 39 9 (.slice (some ⟨g, 0, none⟩) 2 cap)).run Try.prog w = .ok (.string ⟨#[UInt8.ofNat a, UInt8.ofNat b]⟩) w := by
  subst hA hB; exact two_back w g cap a b ha hb h0 h1
theorem announce_any (a : Nat) (ha : a < 256) (w : World) :
    Calls Try.prog 11 #[.int .u8 (a : Int)] w fun e w' => e = .returned (.string ⟨#[255, UInt8.ofNat a]⟩) ∧ Held w w' := by
  have hc := fun w g cap => two_back w g cap 255 a (by omega) ha
  go_enter Try.func11, Try.ntmps11
  go_wp2
  go_ret
  exact ⟨rfl, (Held.refl w).alloc _⟩
/-- A frame between two of a few addresses. -/
def Fr (w : World) (r : Ending) (w' : World) : Prop :=
  ∃ (f : ByteArray) (to fr : Nat), r = .returned (.tuple #[.string f, .int .u8 (to : Int), .int .u8 (fr : Int)]) ∧ f.size ≤ 128 ∧ fr ≤ 31 ∧ (∃ h : 2 ≤ f.size, f[0].toNat = to ∧ f[1].toNat = fr) ∧ Held w w'
theorem fr_mk {w w' : World} {T : ByteArray} {l : List UInt8} {to fr x : Nat} {A B : Int} (hT : T.size = 2 ∧ (T.data.toList[0]?).map UInt8.toNat = some to ∧ (T.data.toList[1]?).map UInt8.toNat = some fr) (hl : l.length = x) (hx : x ≤ 15) (hA : A = to) (hB : B = fr) (hf : fr ≤ 31) (hh : Held w w') :
    Fr w (.returned (.tuple #[.string (T ++ ⟨l.toArray⟩), .int .u8 A, .int .u8 B])) w' := by
  subst hA hB
  have hsz : (T ++ (⟨l.toArray⟩ : ByteArray)).size = 2 + l.length := by rw [ByteArray.size_append, hT.1]; rfl
  have hat : ∀ k, ∀ hk : k < T.size, ∀ h2 : k < (T ++ (⟨l.toArray⟩ : ByteArray)).size, some ((T ++ (⟨l.toArray⟩ : ByteArray))[k]'h2).toNat = (T.data.toList[k]?).map UInt8.toNat := by
    intro k hk h2
    rw [ByteArray.getElem_append_left hk, List.getElem?_eq_getElem (by simpa using hk)]
    rfl
  refine ⟨_, to, fr, rfl, by omega, hf, ⟨by omega, ?_, ?_⟩, hh⟩
  · have := hat 0 (by omega) (by omega)
    rw [hT.2.1] at this
    injection this
  · have := hat 1 (by omega) (by omega)
    rw [hT.2.2] at this
    injection this
set_option maxHeartbeats 2000000 in
theorem frame_any (n : Int) (w : World) :
    Calls Try.prog 7 #[.int .i64 n] w (Fr w) := by
  obtain ⟨v, hv⟩ : ∃ v, Mk.mix n 21 = v := ⟨_, rfl⟩
  have hvl := Mk.mix_lt n 21
  have HM := Lib.hid (Mk.mix_any n 21 w)
  rw [hv] at hvl HM
  clear hv
  have a1 : bits .and .i64 (v : Int) 31 = ((v &&& 31 : Nat) : Int) := Mk.and_i64 v 31 (by omega) (by omega)
  have a2 : bits .and .i64 ((v : Int) / 32) 31 = ((v / 32 &&& 31 : Nat) : Int) := Mk.and_i64 (v / 32) 31 (by omega) (by omega)
  have a3 : bits .and .i64 ((v : Int) / 1024) 7 = ((v / 1024 &&& 7 : Nat) : Int) := Mk.and_i64 (v / 1024) 7 (by omega) (by omega)
  have a4 : bits .and .i64 ((v : Int) / 8192) 15 = ((v / 8192 &&& 15 : Nat) : Int) := Mk.and_i64 (v / 8192) 15 (by omega) (by omega)
  have l1 : v &&& 31 ≤ 31 := Nat.and_le_right
  have l2 : v / 32 &&& 31 ≤ 31 := Nat.and_le_right
  have l3 : v / 1024 &&& 7 ≤ 7 := Nat.and_le_right
  have l4 : v / 8192 &&& 15 ≤ 15 := Nat.and_le_right
  generalize v &&& 31 = x1 at a1 l1
  generalize v / 32 &&& 31 = x2 at a2 l2
  generalize v / 1024 &&& 7 = x3 at a3 l3
  generalize v / 8192 &&& 15 = x4 at a4 l4
  by_cases h0 : x3 = 0
  · subst h0
    have hc := fun w g cap => two_back' w g cap (255) (x2 : Int) 255 x2 rfl rfl (by omega) (by omega)
    obtain ⟨T, hT, hT2, hT3, hT4⟩ : ∃ T : ByteArray, T = ⟨#[UInt8.ofNat 255, UInt8.ofNat x2]⟩ ∧ T.size = 2 ∧ (T.data.toList[0]?).map UInt8.toNat = some 255 ∧ (T.data.toList[1]?).map UInt8.toNat = some x2 := ⟨_, rfl, rfl, by first | rfl | (simp [UInt8.toNat_ofNat']; omega), by simp [UInt8.toNat_ofNat']; omega⟩
    rw [← hT] at hc
    have HT := Lib.hid (And.intro hT2 (And.intro hT3 hT4))
    have hTs : (T.size : Int) ≤ 2 := by omega
    clear hT hT2 hT3 hT4
    go_enter Try.func7, Try.ntmps7
    go_wp2_with (go_at_call 14; refine HM.out.mono ?_; rintro e w' ⟨rfl, rfl⟩)
    go_region_with (first | (go_at_call 15; refine (Mk.data_any _ _ _ (by omega)).mono ?_; rintro e w2 ⟨l, hl, rfl, hh2⟩; obtain ⟨t0, z0⟩ := bcell hh2; have HH2 := Lib.hid hh2; clear hh2))
    all_goals
      go_wp2
      go_ret3
      exact fr_mk HT.out hl (by omega) rfl rfl (by omega) (by first | exact (((Held.refl w).alloc _).drew).step HH2.out | exact (((Held.refl w).drew).step HH2.out).alloc _ | exact ((((Held.refl w).drew).step HH2.out).alloc _).drew | exact ((((Held.refl w).alloc _).drew).step HH2.out).drew | exact (((Held.refl w).drew).alloc _).step HH2.out)
  · have h0' : ((x3 : Int) == 0) = false := by simp; omega
    have hc := fun w g cap => two_back' w g cap (x1 : Int) (x2 : Int) x1 x2 rfl rfl (by omega) (by omega)
    obtain ⟨T, hT, hT2, hT3, hT4⟩ : ∃ T : ByteArray, T = ⟨#[UInt8.ofNat x1, UInt8.ofNat x2]⟩ ∧ T.size = 2 ∧ (T.data.toList[0]?).map UInt8.toNat = some x1 ∧ (T.data.toList[1]?).map UInt8.toNat = some x2 := ⟨_, rfl, rfl, by first | rfl | (simp [UInt8.toNat_ofNat']; omega), by simp [UInt8.toNat_ofNat']; omega⟩
    rw [← hT] at hc
    have HT := Lib.hid (And.intro hT2 (And.intro hT3 hT4))
    have hTs : (T.size : Int) ≤ 2 := by omega
    clear hT hT2 hT3 hT4
    go_enter Try.func7, Try.ntmps7
    go_wp2_with (go_at_call 14; refine HM.out.mono ?_; rintro e w' ⟨rfl, rfl⟩)
    go_region_with (first | (go_at_call 15; refine (Mk.data_any _ _ _ (by omega)).mono ?_; rintro e w2 ⟨l, hl, rfl, hh2⟩; obtain ⟨t0, z0⟩ := bcell hh2; have HH2 := Lib.hid hh2; clear hh2))
    all_goals
      go_wp2
      go_ret3
      exact fr_mk HT.out hl (by omega) rfl rfl (by omega) (by first | exact (((Held.refl w).alloc _).drew).step HH2.out | exact (((Held.refl w).drew).step HH2.out).alloc _ | exact ((((Held.refl w).drew).step HH2.out).alloc _).drew | exact ((((Held.refl w).alloc _).drew).step HH2.out).drew | exact (((Held.refl w).drew).alloc _).step HH2.out)
theorem forward_own (P pt : Int) (L : List Lr) (f : ByteArray) (B : Nat) (w : World) (tv : Value) (h : Own 35 2 lrC B w tv L) (hv : VS P L) (h1 : 2 ≤ f.size) (h2 : f.size ≤ 128) (hp : 0 ≤ pt) (hp2 : pt < P)
    (to fr : Nat) (hto : f[0].toNat = to) (hfr : f[1].toNat = fr) (hfr2 : fr < 255) :
    Calls Try.prog 9 #[.agg #[.int .i64 P, tv], .int .i64 pt, .string f] w (Fw w P (learnL L fr pt) (outs P pt (learnL L fr pt) to)) := by
  obtain ⟨A, cap, rfl, hc, hs⟩ := own_shape' h
  refine forward_any P pt A L.length cap L f w hs ?_ hc hv h1 h2 hp hp2 to fr hto hfr hfr2
  rintro rfl
  rcases h.2 with ⟨_, h0⟩ | ⟨g, cp, cur, he, _⟩
  · exact h0
  · cases he
theorem vs_nil (P : Int) (h1 : 1 ≤ P) (h2 : P ≤ 8) : VS P [] := ⟨h1, h2, by simp, fun x hx => by simp at hx, List.Pairwise.nil⟩
theorem awk1 : learnL [] 7 0 = [⟨7, 0⟩] := rfl
theorem awk2 : learnL [⟨7, 0⟩] 9 2 = [⟨9, 2⟩, ⟨7, 0⟩] := rfl
theorem awk3 : outs 3 0 [⟨7, 0⟩] 9 = [1, 2] := by decide
theorem awk4 : outs 3 2 [⟨9, 2⟩, ⟨7, 0⟩] 7 = [0] := by decide
theorem awk5 : find [⟨9, 2⟩, ⟨7, 0⟩] 9 = 0 := rfl
theorem same_yes (A B : Option Addr) (n c d : Nat) (L : List Int) (w : World) (ha : Sl 1 intC w A n L) (hb : Sl 1 intC w B n L) (hn : n ≤ 1000) (hc : n ≤ c) (hd : n ≤ d) :
    Calls Try.prog 13 #[.slice A n c, .slice B n d] w fun e w' => e = .returned (.bool true) ∧ Held w w' := by
  have HA := Lib.hid ha
  have HB := Lib.hid hb
  clear ha hb
  go_enter Try.func13, Try.ntmps13
  go_wp2
  go_loopw [5] (fun i wr => ∃ k : Nat, k ≤ n ∧ i = .int .i64 k ∧ Held w wr) (fun i _ => n - (intOf i).toNat)
  case atStart => exact ⟨0, Nat.zero_le _, rfl, Held.refl _⟩
  case round =>
    obtain ⟨k, hk, rfl, hh⟩ := hrel
    by_cases hlt : (k : Int) < n
    · obtain ⟨b1, o1, x, rfl, _, hx, hc1⟩ := HA.out.at_ hh (k := k) (by omega)
      obtain ⟨b2, o2, y, rfl, _, hy, hc2⟩ := HB.out.at_ hh (k := k) (by omega)
      rw [hx] at hy
      injection hy with hy
      subst hy
      have f0 := hc1 0 _ rfl
      have g0 := hc2 0 _ rfl
      rw [Nat.add_zero, Nat.mul_one] at f0 g0
      have HH := Lib.hid hh
      have e0 : (0 : Int) ≤ k := by omega
      clear hc1 hc2 hx hh
      go_wp2
      go_quiet (fail)
      go_wp2
      go_roundw
      case rel => exact ⟨k + 1, by omega, by go_num, HH.out.drewN _⟩
      case measure => (simp [intOf]) <;> omega
    · have HH := Lib.hid hh
      clear hh
      go_wp2
      go_ret
      exact ⟨rfl, HH.out⟩
theorem same_own {B1 B2 : Nat} (v u : Value) (L : List Int) (w : World) (ha : Own 3 1 intC B1 w v L) (hb : Own 3 1 intC B2 w u L) (hn : L.length ≤ 1000) :
    Calls Try.prog 13 #[v, u] w fun e w' => e = .returned (.bool true) ∧ Held w w' := by
  obtain ⟨A, c, rfl, hc, _⟩ := ha.shape
  obtain ⟨B, d, rfl, hd, _⟩ := hb.shape
  exact same_yes A B L.length c d L w (ha.reads intC_len).1 (hb.reads intC_len).1 hn hc hd
theorem own_two (w : World) (p q : Int) {B : Nat} (h : B ≤ w.heap.size) : Own 3 1 intC B (w.alloc (.cells #[.int .i64 p, .int .i64 q] 3)) (.slice (some ⟨w.heap.size, 0, none⟩) 2 2) [p, q] :=
  ⟨by simp [intC], .inr ⟨w.heap.size, 2, #[.int .i64 p, .int .i64 q], rfl, h, heap_alloc_new w _, Nat.le_refl _, by unfold maxLen; omega, by simp, by simp [intC]⟩⟩
/-- The law's variable that holds the switch: its block b. -/
structure Sw (W : World) (b : Nat) (P : Int) (tv : Value) (L : List Lr) (w : World) : Prop where
  box : w.heap[b]? = some (.cells #[.int .i64 P, tv] 26 (0, 0))
  own : Own 35 2 lrC W.heap.size w tv L
  ne : ∀ g, tv.ownBlock = some g → g ≠ b
  ge : W.heap.size ≤ b
  held : Held W w
  vs : VS P L
namespace Sw
variable {W w : World} {b : Nat} {P : Int} {tv : Value} {L : List Lr}
theorem lt (h : Sw W b P tv L w) : b < w.heap.size := (Array.getElem?_eq_some_iff.1 h.box).1
theorem cells (h : Sw W b P tv L w) : w.cell? ⟨b, 0, none⟩ = some (.int .i64 P) ∧ w.cell? ⟨b, 1, none⟩ = some tv ∧ w.frozen? ⟨b, 0, none⟩ = false ∧ w.frozen? ⟨b, 1, none⟩ = false := by
  have h1 := h.box
  exact ⟨by simp [World.cell?, h1], by simp [World.cell?, h1], by simp [World.frozen?, h1], by simp [World.frozen?, h1]⟩
theorem keep {w' : World} (h : Sw W b P tv L w) (k : Held w w') : Sw W b P tv L w' :=
  ⟨(k.block _ h.lt).trans h.box, Own.held h.own k, h.ne, h.ge, h.held.step k, h.vs⟩
theorem set_other {w : World} {b : Nat} {u v : Value} : ∀ c, c ≠ b → ((w.setCell ⟨b, 0, none⟩ u).setCell ⟨b, 1, none⟩ v).heap[c]? = w.heap[c]? := by
  intro c hc
  simp only [World.setCell]
  rw [Array.getElem?_modify, if_neg (fun e => hc e.symm), Array.getElem?_modify, if_neg (fun e => hc e.symm)]
/-- The switch behind a frame, stored. -/
theorem put {w' : World} {tv' ov : Value} {M : List Lr} {O : List Int} (h : Sw W b P tv L w) (ho : Own 35 2 lrC w.heap.size w' tv' M) (hO : Own 3 1 intC w.heap.size w' ov O) (k : Held w w') (hv : VS P M) :
    Sw W b P tv' M ((w'.setCell ⟨b, 0, none⟩ (.int .i64 P)).setCell ⟨b, 1, none⟩ tv') ∧ Own 3 1 intC W.heap.size ((w'.setCell ⟨b, 0, none⟩ (.int .i64 P)).setCell ⟨b, 1, none⟩ tv') ov O := by
  have h1 := h.lt
  have hne : ∀ g, tv'.ownBlock = some g → g ≠ b := fun g hg => by have := (World.ownsRow.lt ho g hg).1; omega
  have hneO : ∀ g, ov.ownBlock = some g → g ≠ b := fun g hg => by have := (World.ownsRow.lt hO g hg).1; omega
  have hle := h.held.le
  refine ⟨⟨?_, ⟨ho.1, ho.2.imp id ?_⟩, hne, h.ge, ((h.held.step k).set h.ge _).set h.ge _, hv⟩, ⟨hO.1, hO.2.imp id ?_⟩⟩
  · simp only [World.setCell]
    rw [Array.getElem?_modify, if_pos rfl, Array.getElem?_modify, if_pos rfl, (k.block _ h1).trans h.box]; rfl
  · rintro ⟨g, cp, cur, rfl, q1, q2, q3⟩
    exact ⟨g, cp, cur, rfl, Nat.le_trans hle q1, (set_other g (hne g rfl)).trans q2, q3⟩
  · rintro ⟨g, cp, cur, rfl, q1, q2, q3⟩
    exact ⟨g, cp, cur, rfl, Nat.le_trans hle q1, (set_other g (hneO g rfl)).trans q2, q3⟩
end Sw
theorem sw_new {W w : World} (P : Int) (h1 : 1 ≤ P) (h2 : P ≤ 8) (hw : Held W w) : Sw W w.heap.size P (.slice none 0 0) [] (w.alloc (.cells #[.int .i64 P, .slice none 0 0] 26)) :=
  ⟨heap_alloc_new w _, Own.nil _, (fun g hg => by cases hg), hw.le, hw.alloc _, vs_nil P h1 h2⟩
set_option maxHeartbeats 2000000 in
theorem awake_any (w : World) :
    Calls Try.prog 5 #[] w fun e w' => e = .returned (.bool true) ∧ Held w w' := by
  go_enter Try.func5, Try.ntmps5
  go_wp2_with fail
  refine (new_any 3 w (by omega) (by omega)).mono ?_
  rintro e w1 ⟨rfl, h1⟩
  have S1 := Lib.hid (sw_new (W := w) 3 (by omega) (by omega) h1)
  go_wp2_with fail
  generalize w1.heap.size = b at S1 ⊢
  have hf1 := Lib.hid (forward_own 3 0 [] ⟨#[9, 7, 104, 101, 108, 108, 111]⟩ _ _ _ S1.out.own S1.out.vs (by decide) (by decide) (by omega) (by omega) 9 7 rfl rfl (by omega))
  rw [awk1, awk3] at hf1
  refine hf1.out.mono ?_
  rintro e w2 ⟨tv, ov, rfl, ho2, hO2, hh2⟩
  obtain ⟨A2, cap2, rfl, _, _⟩ := own_shape' ho2
  obtain ⟨B2, d2, rfl, _, _⟩ := hO2.shape
  obtain ⟨c0, c1, c2, c3⟩ := (S1.out.keep hh2).cells
  have S2 := Lib.hid (S1.out.put ho2 hO2 hh2 (by rw [← awk1]; exact learn_vs (vs_nil 3 (by omega) (by omega)) 7 0 (by omega) (by omega) (by omega)))
  clear ho2 hO2 hh2 hf1
  go_wp2_with fail
  have hf2 := Lib.hid (forward_own 3 2 [⟨7, 0⟩] ⟨#[7, 9]⟩ _ _ _ S2.out.1.own S2.out.1.vs (by decide) (by decide) (by omega) (by omega) 7 9 rfl rfl (by omega))
  rw [awk2, awk4] at hf2
  refine hf2.out.mono ?_
  rintro e w3 ⟨tv3, ov3, rfl, ho3, hO3, hh3⟩
  obtain ⟨A3, cap3, rfl, _, _⟩ := own_shape' ho3
  obtain ⟨B3, d3, rfl, _, _⟩ := hO3.shape
  obtain ⟨e0, e1, e2, e3⟩ := (S2.out.1.keep hh3).cells
  have vs3 : VS 3 [(⟨9, 2⟩ : Lr), ⟨7, 0⟩] := by rw [← awk2]; exact learn_vs S2.out.1.vs 9 2 (by omega) (by omega) (by omega)
  have S3 := Lib.hid (S2.out.1.put ho3 hO3 hh3 vs3)
  have O2 : Own 3 1 intC w.heap.size ((w3.setCell ⟨b, 0, none⟩ (.int .i64 3)).setCell ⟨b, 1, none⟩ (.slice A3 [(⟨9, 2⟩ : Lr), ⟨7, 0⟩].length cap3)) (.slice B2 [(1 : Int), 2].length d2) [1, 2] := by
    have h9 := Own.held S2.out.2 hh3
    have hq := World.ownsRow.lt S2.out.2
    refine ⟨h9.1, h9.2.imp id ?_⟩
    rintro ⟨g, cp, cur, he, q1, q2, q3⟩
    refine ⟨g, cp, cur, he, q1, (Sw.set_other g (fun e => ?_)).trans q2, q3⟩
    rw [e] at q2
    rw [(S2.out.1.keep hh3).box] at q2
    injection q2 with q2
    injection q2 with _ q2
    exact absurd q2 (by decide)
  have HO2 := Lib.hid O2
  clear O2 ho3 hO3 hh3 hf2 c0 c1 c2 c3 vs3
  go_wp2_with fail
  have hp := Lib.hid (port_hit 3 A3 2 cap3 _ 9 0 _ (S3.out.1.own.reads lrC_len).1 (by omega) (Own.cap S3.out.1.own) (by decide) awk5)
  refine hp.out.mono ?_
  rintro e w4 ⟨rfl, h4⟩
  have S4 := Lib.hid (And.intro (Own.held S3.out.2 h4) (And.intro (Own.held HO2.out h4) (S3.out.1.held.step h4)))
  clear h4 hp
  go_wp2_with fail
  refine (announce_any 5 (by omega) _).mono ?_
  rintro e w5 ⟨rfl, h5⟩
  have S5 := Lib.hid (And.intro (Own.held S4.out.1 h5) (And.intro (Own.held S4.out.2.1 h5) (S4.out.2.2.step h5)))
  clear h5
  have T5 := Lib.hid (And.intro (Own.held S5.out.1 ((Held.refl w5).alloc (.cells #[.int .i64 1, .int .i64 2] 3))) (And.intro (Own.held S5.out.2.1 ((Held.refl w5).alloc (.cells #[.int .i64 1, .int .i64 2] 3))) (S5.out.2.2.alloc (.cells #[.int .i64 1, .int .i64 2] 3))))
  go_wp2_with fail
  refine (same_own (B1 := w.heap.size) (B2 := w5.heap.size) _ _ [1, 2] _ T5.out.2.1 (own_two w5 1 2 (Nat.le_refl _)) (by decide)).mono ?_
  rintro e w6 ⟨rfl, h6⟩
  have S6 := Lib.hid (And.intro (Own.held T5.out.1 h6) (T5.out.2.2.step h6))
  clear h6
  have T6 := Lib.hid (And.intro (Own.held S6.out.1 ((Held.refl w6).alloc (.cells #[.int .i64 0] 3))) (S6.out.2.alloc (.cells #[.int .i64 0] 3)))
  go_wp2_with fail
  refine (same_own (B1 := w.heap.size) (B2 := w6.heap.size) _ _ [0] _ T6.out.1 (own_new w6 0 (Nat.le_refl _)) (by decide)).mono ?_
  rintro e w7 ⟨rfl, h7⟩
  have S7 := Lib.hid (T6.out.2.step h7)
  clear h7
  go_wp2
  go_ret
  exact ⟨rfl, S7.out⟩
end Net
end Go.Proofs.Ytnmhmjcpiijkcaa
