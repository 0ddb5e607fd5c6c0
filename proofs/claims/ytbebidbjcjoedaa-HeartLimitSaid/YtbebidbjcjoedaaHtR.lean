/-
  Contracts: reading a heartbeat packet, by heartbeat and by its reference.
-/
import Derived.Test.YtbebidbjcjoedaaHtP
import Derived.Test.YtbebidbjcjoedaaLgE
import Derived.Test.YtbebidbjcjoedaaHt
set_option linter.unusedVariables false
set_option linter.unusedSimpArgs false
set_option maxRecDepth 100000
namespace Go.Proofs.Ytbebidbjcjoedaa
open Go.RowKit
namespace Htc
open Ht Lgc Lg
/-- The call hands back what the packet is read as. -/
def Parsed (r : Nat × Nat × Bool) (w : World) (e : Ending) (w' : World) : Prop := e = .returned (.tuple #[.int .u64 r.1, .int .u64 r.2.1, .bool r.2.2]) ∧ Held w w'
theorem parse_any (s : ByteArray) (hs : (s.size : Int) ≤ 1000000000) (w : World) : Calls Try.prog 12 #[.string s] w (Parsed (parse s.data.toList) w) := by
  have H1 := Lib.hid (open_any s (by omega) w)
  have hbl : (opens s.data.toList).2.1.length ≤ s.size := by
    unfold opens
    split
    · simp
    · split
      · simp
      · show (opR s.data.toList).1.length ≤ _
        rw [← len_eq]
        unfold opR dataR
        exact Nat.le_trans (bytesR_len _ _ _).1 (Nat.le_trans (numR_len _ _) (numR_len _ _))
  obtain ⟨⟨n, b, e⟩, ho⟩ : ∃ x, opens s.data.toList = x := ⟨_, rfl⟩
  have hp : parse s.data.toList = parseO n b e := by unfold parse; rw [ho]
  rw [ho] at H1 hbl
  simp only at H1 hbl
  have HP2 := Lib.hid hp
  clear hp ho
  by_cases he : e = 0
  · cases b with
    | nil =>
      have H : Hid (parse s.data.toList = (0, 0, false)) := HP2.out
      have he' : (e != 0) = false := by simp [he]
      subst he
      go_enter Try.func12, Try.ntmps12
      go_wp2_with fail
      refine H1.out.mono ?_
      rintro e w1 ⟨rfl, h1⟩
      go_wp2
      go_ret3
      exact ⟨by rw [H.out]; rfl, h1⟩
    | cons c t =>
      have hlen : (t.length : Int) ≤ 1000000000 := by rw [List.length_cons] at hbl; omega
      have hsz : (⟨(c :: t).toArray⟩ : ByteArray).size = t.length + 1 := by rw [ba_size, List.length_cons]
      subst he
      obtain ⟨q, hq⟩ : ∃ q : ByteArray, (⟨(c :: t).toArray⟩ : ByteArray) = q := ⟨_, rfl⟩
      rw [hq] at hsz
      have H2 := Lib.hid (H1.out.mono (fun e w' (h : OpensTo _ _ _ _) => (show e = .returned (.tuple #[.int .u64 n, .string q, .int .i64 0]) ∧ Held w w' from by rw [← hq]; exact h)))
      clear H1
      have hqe : (q.toList == []) = false := by rw [ByteArray.toList_eq, ← hq]; simp
      have hq1 : ((q.extract 0 1).toList == [72]) = decide (c = 72) := by
        have : (q.extract 0 1).toList = [c] := by rw [ByteArray.toList_eq, ext_take, ← hq]; simp
        rw [this]; by_cases h : c = 72 <;> simp [h]
      have hqr : (q.extract 1 q.size).data.toList = t := by rw [ext_drop, ← hq]; simp
      have hqs : (q.extract 1 q.size).size = t.length := by rw [← len_eq, hqr]
      have hu := Lib.hid (fun w => Strs.uv_any (q.extract 1 q.size) (by rw [hqs]; omega) w)
      rw [hqr] at hu
      have HSZ := Lib.hid hsz
      have s1 : (1 : Int) ≤ (q.size : Int) := by omega
      have s2 : (q.size : Int) ≤ 2000000000 := by omega
      have hn := Uv.uvN_le t
      by_cases hc : c = 72
      · have hq1' : ((q.extract 0 1).toList == [72]) = true := by rw [hq1]; simp [hc]
        clear hq1
        obtain ⟨m, hm⟩ : ∃ m, Uv.uvN t = m := ⟨_, rfl⟩
        have HM := Lib.hid hm
        rw [hm] at hu hn
        cases hub : Uv.uvB t
        · have H : Hid (parse s.data.toList = (0, 0, false)) := show _ = _ by rw [HP2.out]; simp [parseO, hub]
          rw [hub] at hu
          clear hq hqr hqs hsz hm hub
          go_enter Try.func12, Try.ntmps12
          go_wp2_with (first | (go_at_call 23; refine H2.out.mono ?_; rintro e w1 ⟨rfl, h1⟩) | (go_at_call 24; refine (hu.out _).mono ?_; rintro e w2 ⟨rfl, rfl⟩))
          go_ret3
          exact ⟨by rw [H.out]; rfl, h1⟩
        · by_cases hml : m = t.length
          · have H : Hid (parse s.data.toList = (n, Uv.uvX t, true)) := show _ = _ by rw [HP2.out]; simp [parseO, hub, hc, hm, hml]
            have hml' : ((m : Int) != (q.size : Int) - 1) = false := by simp; omega
            rw [hub] at hu
            clear hq hqr hqs hsz hm hub hml
            go_enter Try.func12, Try.ntmps12
            go_wp2_with (first | (go_at_call 23; refine H2.out.mono ?_; rintro e w1 ⟨rfl, h1⟩) | (go_at_call 24; refine (hu.out _).mono ?_; rintro e w2 ⟨rfl, rfl⟩))
            go_ret3
            exact ⟨by rw [H.out]; rfl, h1⟩
          · have H : Hid (parse s.data.toList = (0, 0, false)) := show _ = _ by rw [HP2.out]; simp [parseO, hm, hml]
            have hml' : ((m : Int) != (q.size : Int) - 1) = true := by simp; omega
            rw [hub] at hu
            clear hq hqr hqs hsz hm hub hml
            go_enter Try.func12, Try.ntmps12
            go_wp2_with (first | (go_at_call 23; refine H2.out.mono ?_; rintro e w1 ⟨rfl, h1⟩) | (go_at_call 24; refine (hu.out _).mono ?_; rintro e w2 ⟨rfl, rfl⟩))
            go_ret3
            exact ⟨by rw [H.out]; rfl, h1⟩
      · have hq1' : ((q.extract 0 1).toList == [72]) = false := by rw [hq1]; simp [hc]
        have H : Hid (parse s.data.toList = (0, 0, false)) := show _ = _ by rw [HP2.out]; simp [parseO, hc]
        clear hq1 hq hqr hqs hsz hc
        go_enter Try.func12, Try.ntmps12
        go_wp2_with (first | (go_at_call 23; refine H2.out.mono ?_; rintro e w1 ⟨rfl, h1⟩))
        go_ret3
        exact ⟨by rw [H.out]; rfl, h1⟩
  · have H : Hid (parse s.data.toList = (0, 0, false)) := show _ = _ by
      rw [HP2.out]; cases b with
      | nil => rfl
      | cons c t => simp [parseO, he]
    have he' : (e != 0) = true := by simp [he]
    go_enter Try.func12, Try.ntmps12
    go_wp2_with fail
    refine H1.out.mono ?_
    rintro e w1 ⟨rfl, h1⟩
    go_wp2
    go_ret3
    exact ⟨by rw [H.out]; rfl, h1⟩
/-- An opened packet whose body begins with a letter. -/
def openO (n : Nat) (b : List UInt8) (e : Int) (c0 : Nat) : Nat × List UInt8 × Bool :=
  match b with
  | c :: t => if e = 0 ∧ c.toNat = c0 then (n, t, true) else (0, [], false)
  | [] => (0, [], false)
def openL (l : List UInt8) (c0 : Nat) : Nat × List UInt8 × Bool := openO (opens l).1 (opens l).2.1 (opens l).2.2 c0
def Opened (r : Nat × List UInt8 × Bool) (w : World) (e : Ending) (w' : World) : Prop := e = .returned (.tuple #[.int .u64 r.1, .string ⟨r.2.1.toArray⟩, .bool r.2.2]) ∧ Held w w'
theorem opens_len (s : ByteArray) : (opens s.data.toList).2.1.length ≤ s.size := by
  unfold opens
  split
  · simp
  · split
    · simp
    · show (opR s.data.toList).1.length ≤ _
      rw [← len_eq]
      unfold opR dataR
      exact Nat.le_trans (bytesR_len _ _ _).1 (Nat.le_trans (numR_len _ _) (numR_len _ _))
theorem ret_opd {n : Int} {s : ByteArray} {l : List UInt8} {e : Bool} (h : s.data.toList = l) : Ending.returned (.tuple #[.int .u64 n, .string s, .bool e]) = .returned (.tuple #[.int .u64 n, .string ⟨l.toArray⟩, .bool e]) := by rw [str_mk h]
theorem opened_any (s : ByteArray) (c0 : Nat) (hs : (s.size : Int) ≤ 1000000000) (w : World) : Calls Try.prog 25 #[.string s, .int .u8 c0] w (Opened (openL s.data.toList c0) w) := by
  have H1 := Lib.hid (open_ref_any s (by omega) w)
  have hbl := opens_len s
  obtain ⟨⟨n, b, e⟩, ho⟩ : ∃ x, opens s.data.toList = x := ⟨_, rfl⟩
  have hp : openL s.data.toList c0 = openO n b e c0 := by unfold openL; rw [ho]
  rw [ho] at H1 hbl
  simp only at H1 hbl
  have HP2 := Lib.hid hp
  clear hp ho
  by_cases he : e = 0
  · cases b with
    | nil =>
      have H : Hid (openL s.data.toList c0 = (0, [], false)) := HP2.out
      have he' : (e != 0) = false := by simp [he]
      subst he
      go_enter Try.func25, Try.ntmps25
      go_wp2_with fail
      refine H1.out.mono ?_
      rintro e w1 ⟨rfl, h1⟩
      go_wp2
      go_ret3
      exact ⟨by rw [H.out]; rfl, h1⟩
    | cons c t =>
      have hlen : (t.length : Int) ≤ 1000000000 := by rw [List.length_cons] at hbl; omega
      have hsz : (⟨(c :: t).toArray⟩ : ByteArray).size = t.length + 1 := by rw [ba_size, List.length_cons]
      subst he
      obtain ⟨q, hq⟩ : ∃ q : ByteArray, (⟨(c :: t).toArray⟩ : ByteArray) = q := ⟨_, rfl⟩
      rw [hq] at hsz
      have H2 := Lib.hid (H1.out.mono (fun e w' (h : OpensTo _ _ _ _) => (show e = .returned (.tuple #[.int .u64 n, .string q, .int .i64 0]) ∧ Held w w' from by rw [← hq]; exact h)))
      clear H1
      have hqr : (q.extract 1 q.size).data.toList = t := by rw [ext_drop, ← hq]; simp
      have hq0 : 0 < q.size := by omega
      have hqc : q[0] = c := by subst hq; rfl
      have HQR := Lib.hid hqr
      have s1 : (1 : Int) ≤ (q.size : Int) := by omega
      have s2 : (q.size : Int) ≤ 2000000000 := by omega
      have s3 : ((q.size : Int) == 0) = false := beq_eq_false_iff_ne.2 (by omega)
      by_cases hc : c.toNat = c0
      · have H : Hid (openL s.data.toList c0 = (n, t, true)) := show _ = _ by rw [HP2.out]; simp [openO, hc]
        have hc' : ((q[0].toNat : Int) != (c0 : Int)) = false := by rw [hqc]; simp [hc]
        clear hq hqr hsz hqc hc
        go_enter Try.func25, Try.ntmps25
        go_wp2_with (first | (go_at_call 34; refine H2.out.mono ?_; rintro e w1 ⟨rfl, h1⟩))
        go_quiet (fail)
        go_wp2
        go_ret3
        exact ⟨by rw [H.out]; exact ret_opd HQR.out, h1.drewN _⟩
      · have H : Hid (openL s.data.toList c0 = (0, [], false)) := show _ = _ by rw [HP2.out]; simp [openO, hc]
        have hc' : ((q[0].toNat : Int) != (c0 : Int)) = true := by rw [hqc]; simp; omega
        clear hq hqr hsz hqc hc
        go_enter Try.func25, Try.ntmps25
        go_wp2_with (first | (go_at_call 34; refine H2.out.mono ?_; rintro e w1 ⟨rfl, h1⟩))
        go_ret3
        exact ⟨by rw [H.out]; rfl, h1⟩
  · have H : Hid (openL s.data.toList c0 = (0, [], false)) := show _ = _ by
      rw [HP2.out]; cases b with
      | nil => rfl
      | cons c t => simp [openO, he]
    have he' : (e != 0) = true := by simp [he]
    go_enter Try.func25, Try.ntmps25
    go_wp2_with fail
    refine H1.out.mono ?_
    rintro e w1 ⟨rfl, h1⟩
    go_wp2
    go_ret3
    exact ⟨by rw [H.out]; rfl, h1⟩
theorem whole_any (s : ByteArray) (hs : (s.size : Int) ≤ 1000000000) (w : World) : Calls Try.prog 26 #[.string s] w fun e w' => e = .returned (.tuple #[.int .u64 (Uv.uvX s.data.toList), .bool (Uv.uvB s.data.toList && decide (Uv.uvN s.data.toList = s.data.toList.length))]) ∧ w = w' := by
  have hu := Lib.hid (fun w => Strs.uv_ref_any s (by omega) w)
  rw [len_eq]
  generalize Uv.uvX s.data.toList = x at *
  generalize Uv.uvN s.data.toList = m at *
  cases hb : Uv.uvB s.data.toList
  · rw [hb] at hu
    go_enter Try.func26, Try.ntmps26
    go_wp2_with (first | (go_at_call 35; refine (hu.out _).mono ?_; rintro e w2 ⟨rfl, rfl⟩))
    go_ret2
    exact ⟨rfl, rfl⟩
  · rw [hb] at hu
    by_cases hm : m = s.size
    · have hm' : ((m : Int) == (s.size : Int)) = true := by simp [hm]
      rw [decide_eq_true hm]
      clear hm
      go_enter Try.func26, Try.ntmps26
      go_wp2_with (first | (go_at_call 35; refine (hu.out _).mono ?_; rintro e w2 ⟨rfl, rfl⟩))
      go_ret2
      exact ⟨rfl, rfl⟩
    · have hm' : ((m : Int) == (s.size : Int)) = false := by simp; omega
      rw [decide_eq_false hm]
      clear hm
      go_enter Try.func26, Try.ntmps26
      go_wp2_with (first | (go_at_call 35; refine (hu.out _).mono ?_; rintro e w2 ⟨rfl, rfl⟩))
      go_ret2
      exact ⟨rfl, rfl⟩
theorem openL_yes {l t : List UInt8} {c0 n : Nat} (h : openL l c0 = (n, t, true)) : ∃ c : UInt8, c.toNat = c0 ∧ opens l = (n, c :: t, 0) := by
  obtain ⟨m, b, e, ho⟩ : ∃ m b e, opens l = (m, b, e) := ⟨_, _, _, rfl⟩
  unfold openL at h
  rw [ho] at h
  cases b with
  | nil => simp [openO] at h
  | cons c b =>
    simp only [openO] at h
    split at h
    · rename_i hc
      injection h with e1 e2
      injection e2 with e2 _
      subst e1 e2
      exact ⟨c, hc.2, by rw [ho, hc.1]⟩
    · simp at h
theorem parse_openL (l : List UInt8) : parse l = (if ((openL l 72).2.2 && (Uv.uvB (openL l 72).2.1 && decide (Uv.uvN (openL l 72).2.1 = (openL l 72).2.1.length))) = true then ((openL l 72).1, Uv.uvX (openL l 72).2.1, true) else (0, 0, false)) := by
  unfold parse openL
  generalize (opens l).1 = m
  generalize (opens l).2.2 = e
  cases (opens l).2.1 with
  | nil => simp [parseO, openO]
  | cons c t =>
    have e72 : (c.toNat = 72) = (c = 72) := propext ⟨fun h => UInt8.toNat_inj.1 h, fun h => by rw [h]; rfl⟩
    simp only [parseO, openO, e72]
    by_cases h0 : e = 0
    · by_cases hc : c = 72
      · by_cases h2 : Uv.uvB t = true
        · by_cases h3 : Uv.uvN t = t.length <;> simp [h0, hc, h2, h3]
        · simp [h0, hc, h2]
      · simp [h0, hc]
    · simp [h0]
theorem openL_lt {l : List UInt8} {c0 : Nat} : (openL l c0).1 < 18446744073709551616 := by
  unfold openL openO
  split
  · split
    · unfold opens
      split
      · exact Nat.zero_lt_succ _
      · split
        · exact Nat.zero_lt_succ _
        · exact numR_lt _ _
    · exact Nat.zero_lt_succ _
  · exact Nat.zero_lt_succ _
theorem openL_len (s : ByteArray) (c0 : Nat) : (openL s.data.toList c0).2.1.length ≤ s.size := by
  have h := opens_len s
  unfold openL openO
  split
  · rename_i c t hb
    split
    · rw [hb, List.length_cons] at h; show t.length ≤ _; omega
    · simp
  · simp
theorem parse_ref_any (s : ByteArray) (hs : (s.size : Int) ≤ 1000000000) (w : World) : Calls Try.prog 13 #[.string s] w (Parsed (parse s.data.toList) w) := by
  have H1 := Lib.hid (opened_any s 72 hs w)
  have hlen := openL_len s 72
  have hlt := openL_lt (l := s.data.toList) (c0 := 72)
  have hp := parse_openL s.data.toList
  have hy := Lib.hid (fun n k => @packet_parse s.data.toList n k)
  obtain ⟨⟨n, t, ok⟩, ho⟩ : ∃ x, openL s.data.toList 72 = x := ⟨_, rfl⟩
  rw [ho] at H1 hlen hlt hp
  simp only at H1 hlen hlt hp
  obtain ⟨q, hq⟩ : ∃ q : ByteArray, (⟨t.toArray⟩ : ByteArray) = q := ⟨_, rfl⟩
  have hqt : q.data.toList = t := by rw [← hq]
  have hqs : q.size = t.length := by rw [← len_eq, hqt]
  have H2 := Lib.hid (H1.out.mono (fun e w' (h : Opened _ _ _ _) => (show e = .returned (.tuple #[.int .u64 n, .string q, .bool ok]) ∧ Held w w' from by rw [← hq]; exact h)))
  have hwh := Lib.hid (fun w => whole_any q (by omega) w)
  rw [hqt] at hwh
  have HP := Lib.hid hp
  have hk := Uv.uvX_lt t
  have n1 : (n : Int) ≤ 18446744073709551615 := by omega
  clear H1 ho hp hq hqt hqs hlen hlt
  cases ok
  · have H : Hid (parse s.data.toList = (0, 0, false)) := show _ = _ by rw [HP.out]; simp
    clear hy
    go_enter Try.func13, Try.ntmps13
    go_wp2_with (first | (go_at_call 25; refine H2.out.mono ?_; rintro e w1 ⟨rfl, h1⟩) | (go_at_call 26; refine (hwh.out _).mono ?_; rintro e w2 ⟨rfl, rfl⟩))
    go_ret3
    exact ⟨by rw [H.out]; rfl, h1⟩
  · obtain ⟨k, hkk⟩ : ∃ k, Uv.uvX t = k := ⟨_, rfl⟩
    rw [hkk] at hwh hk
    cases hw : (Uv.uvB t && decide (Uv.uvN t = t.length))
    · have H : Hid (parse s.data.toList = (0, 0, false)) := show _ = _ by rw [HP.out]; rw [hw]; simp
      rw [hw] at hwh
      clear hy hkk hw
      go_enter Try.func13, Try.ntmps13
      go_wp2_with (first | (go_at_call 25; refine H2.out.mono ?_; rintro e w1 ⟨rfl, h1⟩) | (go_at_call 26; refine (hwh.out _).mono ?_; rintro e w2 ⟨rfl, rfl⟩))
      go_ret3
      exact ⟨by rw [H.out]; rfl, h1⟩
    · have H : Hid (parse s.data.toList = (n, k, true)) := show _ = _ by rw [HP.out, hw, hkk]; simp
      have hpk := (hy.out _ _ H.out).1
      have k1 : (k : Int) ≤ 18446744073709551615 := by omega
      have HPK := Lib.hid (fun w => packet_ref n k n1 k1 w)
      rw [← hpk] at HPK
      have heq : ((⟨s.data.toList.toArray⟩ : ByteArray).toList == s.toList) = true := by simp [ByteArray.toList_eq]
      rw [hw] at hwh
      clear hy hkk hw hpk
      go_enter Try.func13, Try.ntmps13
      go_wp2_with (first | (go_at_call 25; refine H2.out.mono ?_; rintro e w1 ⟨rfl, h1⟩) | (go_at_call 26; refine (hwh.out _).mono ?_; rintro e w2 ⟨rfl, rfl⟩) | (go_at_call 21; refine (HPK.out _).mono ?_; rintro e w3 ⟨rfl, h3⟩))
      go_ret3
      exact ⟨by rw [H.out]; rfl, h1.step h3⟩
end Htc
end Go.Proofs.Ytbebidbjcjoedaa
