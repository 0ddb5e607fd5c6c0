/-
  Contracts: the law JournalCodes (chapter 42).
-/
import Derived.Test.YtmmnanmegdflgaaZ22
set_option linter.unusedVariables false
set_option linter.unusedSimpArgs false
set_option maxRecDepth 100000
namespace Go.Proofs.Ytmmnanmegdflgaa
open Go.RowKit Go.BigFrame Go.Sort Go.Lib
namespace Jn
open Ad Adm Law39 Lg Lgc Strs
def zM : Man := ⟨0, ⟨#[]⟩, 0, 0, ⟨0, 0, 0, 0⟩, ⟨0, 0, false⟩⟩
set_option maxHeartbeats 4000000 in
theorem codes_any (o : Man) (s : ByteArray) (ws : s.size ≤ maxLen) (w : World) (ho : Ok o ∧ o.nm.size ≤ maxLen) :
    Calls Try.prog 3 #[.agg #[.int .i64 o.k, .string o.nm, .int .i64 o.a, .int .i64 o.b, .int .i64 o.d.r, .int .i64 o.d.l, .int .i64 o.d.c, .int .i64 o.d.g, .int .i64 o.c.m, .int .i64 o.c.c, .bool o.c.up], .string s] w fun e w' => e = .returned (.bool true) ∧ Held w w' := by
  have HOK := Lib.hid ho.1
  have hnl : (o.nm.size : Int) ≤ 9223372036854775807 := by have := ho.2; unfold maxLen at this; omega
  clear ho
  obtain ⟨k, nm, a, b, ⟨r, l, c, g⟩, ⟨m, q, u⟩⟩ := o
  dsimp only at hnl ⊢
  unfold maxLen at ws
  have HAW := Lib.hid awake_any
  have M0 := Lib.hid ((Mem.start w).alloc' (b := w.heap.size) rfl #[.int .i64 k, .string nm, .int .i64 a, .int .i64 b, .int .i64 r, .int .i64 l, .int .i64 c, .int .i64 g, .int .i64 m, .int .i64 q, .bool u] 27)
  by_cases h1 : (300 : Int) < nm.size
  · go_enter Try.func3, Try.ntmps3
    go_wp2_with fail
    refine (HAW.out _).mono ?_
    rintro e w1 ⟨rfl, h⟩
    go_wp2
    go_ret
    exact ⟨rfl, M0.out.held.step h⟩
  by_cases h2 : (300 : Int) < s.size
  · go_enter Try.func3, Try.ntmps3
    go_wp2_with fail
    refine (HAW.out _).mono ?_
    rintro e w1 ⟨rfl, h⟩
    go_wp2
    go_ret
    exact ⟨rfl, M0.out.held.step h⟩
  have hen := fun w' => encode_any k nm a b r l c g m q u (by omega) w'
  unfold MakesS at hen
  have hel := enc_len2 ⟨k, nm, a, b, ⟨r, l, c, g⟩, ⟨m, q, u⟩⟩ (by simp only; omega)
  have hdc := dec_enc ⟨k, nm, a, b, ⟨r, l, c, g⟩, ⟨m, q, u⟩⟩ HOK.out
  obtain ⟨E, hE⟩ : ∃ E, enc ⟨k, nm, a, b, ⟨r, l, c, g⟩, ⟨m, q, u⟩⟩ = E := ⟨_, rfl⟩
  rw [hE] at hen hel hdc
  have HEN := Lib.hid hen
  have hde := fun w' => decode_any ⟨E.toArray⟩ (by rw [ba_size]; omega) w'
  unfold DecTo at hde
  have e4 : (⟨E.toArray⟩ : ByteArray).data.toList = E := by simp
  rw [e4, hdc.1, hdc.2] at hde
  dsimp only [manC] at hde
  have HDE := Lib.hid hde
  obtain ⟨x, hx⟩ : ∃ x, s.data.toList = x := ⟨_, rfl⟩
  have hxl : x.length = s.size := by rw [← hx, nm_len]
  have hd2 := fun w' => decode_any s (by omega) w'
  unfold DecTo at hd2
  rw [hx] at hd2
  have hyes := enc_dec x
  have hes := str_mk hx
  have hq1 := eql_man_same ⟨k, nm, a, b, ⟨r, l, c, g⟩, ⟨m, q, u⟩⟩
  dsimp only [manC] at hq1
  have M1 := Lib.hid fun (w1 : World) (h : Held (w.alloc (.cells #[.int .i64 k, .string nm, .int .i64 a, .int .i64 b, .int .i64 r, .int .i64 l, .int .i64 c, .int .i64 g, .int .i64 m, .int .i64 q, .bool u] 27)) w1) => M0.out.keep h
  cases his : decOk x
  · have hz : dec x = zM := by unfold dec; rw [if_neg (by rw [his]; decide)]; rfl
    rw [hz, his] at hd2
    dsimp only [manC, zM] at hd2
    have HD2 := Lib.hid hd2
    have hq2 := eql_man_same zM
    dsimp only [manC, zM] at hq2
    clear hen hel hdc hE hde e4 hx hd2 hyes hz his hxl hes
    go_enter Try.func3, Try.ntmps3
    go_wp2_with fail
    refine (HEN.out _).mono ?_
    rintro e w1 ⟨rfl, h1⟩
    go_wp2_with fail
    refine (HDE.out _).mono ?_
    rintro e w2 ⟨rfl, h2⟩
    have M2 := Lib.hid ((M1.out _ (h1.step h2)).alloc' (b := w2.heap.size) rfl #[.int .i64 k, .string nm, .int .i64 a, .int .i64 b, .int .i64 r, .int .i64 l, .int .i64 c, .int .i64 g, .int .i64 m, .int .i64 q, .bool u] 27)
    go_wp2_with fail
    refine (HD2.out _).mono ?_
    rintro e w3 ⟨rfl, h3⟩
    have M3 := Lib.hid ((M2.out.keep h3).alloc' (b := w3.heap.size) rfl #[.int .i64 0, .string ⟨#[]⟩, .int .i64 0, .int .i64 0, .int .i64 0, .int .i64 0, .int .i64 0, .int .i64 0, .int .i64 0, .int .i64 0, .bool false] 27)
    obtain ⟨⟨a0, a1, a2, a3, a4, a5, a6, a7, a8, a9, a10⟩, _, alt⟩ := M3.out.box11 0 rfl
    obtain ⟨⟨b0, b1, b2, b3, b4, b5, b6, b7, b8, b9, b10⟩, _, blt⟩ := M3.out.box11 1 rfl
    clear h1 h2 h3 M0 M1 M2
    go_wp2_with fail
    refine (HAW.out _).mono ?_
    rintro e w4 ⟨rfl, h4⟩
    go_wp2
    go_ret
    exact ⟨rfl, M3.out.held.step h4⟩
  · have hz : dec x = decoded x := by unfold dec; rw [if_pos his]
    have hey := hyes his
    obtain ⟨y, hy⟩ : ∃ y, decoded x = y := ⟨_, rfl⟩
    rw [hz, his, hy] at hd2
    rw [hy] at hey
    obtain ⟨yk, ynm, ya, yb, ⟨yr, yl, yc, yg⟩, ⟨ym, yq, yu⟩⟩ := y
    dsimp only [manC] at hd2
    have HD2 := Lib.hid hd2
    have hynl : (ynm.size : Int) ≤ 300 := by
      have := enc_nm ⟨yk, ynm, ya, yb, ⟨yr, yl, yc, yg⟩, ⟨ym, yq, yu⟩⟩
      rw [hey, nm_len] at this
      simp only at this
      omega
    have hen2 := fun w' => encode_any yk ynm ya yb yr yl yc yg ym yq yu (by omega) w'
    unfold MakesS at hen2
    rw [hey, ← hes] at hen2
    have HEN2 := Lib.hid hen2
    have hss : (s.toList == s.toList) = true := by simp
    clear hen hel hdc hE hde e4 hx hd2 hyes hz his hxl hes hey hy hen2
    go_enter Try.func3, Try.ntmps3
    go_wp2_with fail
    refine (HEN.out _).mono ?_
    rintro e w1 ⟨rfl, h1⟩
    go_wp2_with fail
    refine (HDE.out _).mono ?_
    rintro e w2 ⟨rfl, h2⟩
    have M2 := Lib.hid ((M1.out _ (h1.step h2)).alloc' (b := w2.heap.size) rfl #[.int .i64 k, .string nm, .int .i64 a, .int .i64 b, .int .i64 r, .int .i64 l, .int .i64 c, .int .i64 g, .int .i64 m, .int .i64 q, .bool u] 27)
    go_wp2_with fail
    refine (HD2.out _).mono ?_
    rintro e w3 ⟨rfl, h3⟩
    have M3 := Lib.hid ((M2.out.keep h3).alloc' (b := w3.heap.size) rfl #[.int .i64 yk, .string ynm, .int .i64 ya, .int .i64 yb, .int .i64 yr, .int .i64 yl, .int .i64 yc, .int .i64 yg, .int .i64 ym, .int .i64 yq, .bool yu] 27)
    obtain ⟨⟨a0, a1, a2, a3, a4, a5, a6, a7, a8, a9, a10⟩, _, alt⟩ := M3.out.box11 0 rfl
    obtain ⟨⟨b0, b1, b2, b3, b4, b5, b6, b7, b8, b9, b10⟩, _, blt⟩ := M3.out.box11 1 rfl
    clear h1 h2 h3 M0 M1 M2
    go_wp2_with fail
    refine (HEN2.out _).mono ?_
    rintro e w4 ⟨rfl, h4⟩
    have M4 := Lib.hid (M3.out.keep h4)
    clear h4 M3 a0 a1 a2 a3 a4 a5 a6 a7 a8 a9 a10 alt b0 b1 b2 b3 b4 b5 b6 b7 b8 b9 b10 blt
    go_wp2_with fail
    refine (HAW.out _).mono ?_
    rintro e w5 ⟨rfl, h5⟩
    go_wp2
    go_ret
    exact ⟨rfl, M4.out.held.step h5⟩
end Jn
end Go.Proofs.Ytmmnanmegdflgaa
