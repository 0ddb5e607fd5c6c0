/-
  Contracts: Improve (chapter 40), of the program.
-/
import Derived.Test.YtmmjofdienoobaaBaN
import Derived.Test.YtmmjofdienoobaaSlcIn
import Derived.Test.YtmmjofdienoobaaBx
set_option linter.unusedVariables false
set_option linter.unusedSimpArgs false
set_option maxRecDepth 100000
namespace Go.Proofs.Ytmmjofdienoobaa
open Go.RowKit
namespace Ba
open Ad Adm
theorem mv_load {w : World} {b : Nat} {x : Mv} (h : w.heap[b]? = some (.cells #[.int .i64 x.g, .int .i64 x.f, .int .i64 x.t] 37 (0, 0))) : (loadVar 37 ⟨b, 0, none⟩).run Try.prog w = .ok (.agg #[.int .i64 x.g, .int .i64 x.f, .int .i64 x.t]) w := by
  have c0 := Bx.cell h 0 rfl
  have c1 := Bx.cell h 1 rfl
  have c2 := Bx.cell h 2 rfl
  simp [go_sem, c0, c1, c2]
abbrev mvBox (b : Nat) (x : Mv) : Ck := .box b #[.int .i64 x.g, .int .i64 x.f, .int .i64 x.t] 37
section
variable {H : List Hc} {L : List Dem} {on : List Int} {g t : Nat} {fr : Int} {st : St}
theorem imp1_same (h : (t : Int) = fr) : imp1 H L on g fr st t = st := if_pos h
theorem imp1_yes (h : ¬ (t : Int) = fr) (h1 : (spread H L (on.set g t)).2 = true) (h2 : (spread H L (on.set g t)).1 < st.least) : imp1 H L on g fr st t = ⟨(spread H L (on.set g t)).1, ⟨g, fr, t⟩, true⟩ := by
  unfold imp1; rw [if_neg h, if_pos ⟨h1, h2⟩]
theorem imp1_no (h : ¬ (t : Int) = fr) (h1 : ¬ ((spread H L (on.set g t)).2 = true ∧ (spread H L (on.set g t)).1 < st.least)) : imp1 H L on g fr st t = st := by
  unfold imp1; rw [if_neg h, if_neg h1]
end
theorem impTo_next {H : List Hc} {L : List Dem} {on : List Int} {least fr : Int} {k : Nat} (h : on[k]? = some fr) : impTo H L on least (k + 1) = impIn H L on k fr (impTo H L on least k) H.length := by rw [impTo, h]
theorem improve_no {H : List Hc} {L : List Dem} {on : List Int} (h : (spread H L on).2 = false) : improve H L on = (mv0, false) := by unfold improve; rw [h]; rfl
theorem improve_yes {H : List Hc} {L : List Dem} {on : List Int} (h : (spread H L on).2 = true) : improve H L on = ((impTo H L on (spread H L on).1 on.length).best, (impTo H L on (spread H L on).1 on.length).found) := by unfold improve; rw [h]; rfl
theorem set_same {l : List Int} {k : Nat} {x : Int} (h : l[k]? = some x) : l.set k x = l := by
  obtain ⟨hk, rfl⟩ := List.getElem?_eq_some_iff.1 h
  exact List.set_getElem_self hk
theorem ret_mv {r : Mv × Bool} {m : Mv} {b : Bool} (h : r = (m, b)) : Ending.returned (.tuple #[.agg #[.int .i64 m.g, .int .i64 m.f, .int .i64 m.t], .bool b]) = .returned (.tuple #[.agg #[.int .i64 r.1.g, .int .i64 r.1.f, .int .i64 r.1.t], .bool r.2]) := by rw [h]
set_option maxHeartbeats 2000000 in
theorem improve_any (A : Option Addr) (n cap : Nat) (A2 : Option Addr) (n2 cap2 : Nat) (A3 : Option Addr) (n3 cap3 : Nat) (H : List Hc) (L : List Dem) (on : List Int) (w : World)
    (hh : Sl 3 hcC w A n H) (hl : Sl 4 demC w A2 n2 L) (ho : Sl 1 inC w A3 n3 on) (hA3 : A3 = none → n3 = 0) (hn3 : (n3 : Int) ≤ 1000000) (hn : (n : Int) ≤ 1000000) :
    Calls Try.prog 24 #[.slice A n cap, .slice A2 n2 cap2, .slice A3 n3 cap3] w fun e w' => e = .returned (.tuple #[.agg #[.int .i64 (improve H L on).1.g, .int .i64 (improve H L on).1.f, .int .i64 (improve H L on).1.t], .bool (improve H L on).2]) ∧ Held w w' := by
  have HH := Lib.hid hh
  have HL := Lib.hid hl
  have HO := Lib.hid ho
  have HSP := Lib.hid (fun on' B n3 cap3 w' (q : Held w w') (h : Sl 1 inC w' B n3 on') => spread_any A n cap A2 n2 cap2 B n3 cap3 H L on' w' (hh.held q) (hl.held q) h)
  have HS0 := HSP.out on A3 n3 cap3
  have M0 := Lib.hid ((Mem.start w).alloc #[.int .i64 0, .int .i64 0, .int .i64 0] 37)
  have HS1 := Lib.hid (HSP.out on A3 n3 cap3 _ M0.out.held (HO.out.held M0.out.held))
  obtain ⟨p, hp⟩ : ∃ p, spread H L on = p := ⟨_, rfl⟩
  rw [hp] at HS1
  obtain ⟨least, ok⟩ := p
  simp only at HS1
  clear HS0 hh hl ho
  cases ok
  · have HP := Lib.hid (improve_no (by rw [hp]))
    clear hp
    have M1 := Lib.hid M0.out
    go_enter Try.func24, Try.ntmps24
    go_wp2_with (go_at_call 23; refine HS1.out.mono ?_; rintro e w1 ⟨rfl, h1⟩; have M2 := Lib.hid (M1.out.keep h1); obtain ⟨_, ⟨f0, f1, f2⟩, lt⟩ := M2.out.box3 0 rfl)
    have M3 := Lib.hid (((M2.out.put 0 rfl 0 (.int .i64 0)).put 0 rfl 1 (.int .i64 0)).put 0 rfl 2 (.int .i64 0))
    refine bodyPost_ret (Bx.res_ct Try.results24 rfl (mv_load (x := mv0) (M3.out.blk 0 rfl))) rfl ?_
    exact ⟨ret_mv HP.out, M3.out.held⟩
  · have HP := Lib.hid (improve_yes (by rw [hp]))
    rw [hp, HO.out.1] at HP
    have HCL := Lib.hid (fun w' (q : Held w w') => SlcIn.clone_any inC_len inC_one A3 n3 cap3 on w' (HO.out.held q) hA3 (by omega))
    clear hp hA3
    go_enter Try.func24, Try.ntmps24
    go_wp2_with (first | (go_at_call 23; refine HS1.out.mono ?_; rintro e w1 ⟨rfl, h1⟩; have M2 := Lib.hid ((M0.out.keep h1).alloc #[.int .i64 0, .int .i64 0, .int .i64 0] 37); clear HS1) | (go_at_call 31; refine (HCL.out _ M2.out.held).mono ?_; rintro e w3 ⟨v3, rfl, ho3, h3⟩; have M3 := Lib.hid (M2.out.own h3 ho3); obtain ⟨A5, cap5, rfl, _⟩ := ho3.shape; clear ho3))
    go_loopw [8, 11, 32] (fun lst fnd i wr => ∃ k : Nat, i = .int .i64 k ∧ k ≤ n3 ∧ lst = .int .i64 (impTo H L on least k).least ∧ fnd = .bool (impTo H L on least k).found ∧ Mem w wr [mvBox w.heap.size mv0, mvBox w1.heap.size (impTo H L on least k).best, .row 3 1 inC w.heap.size (.slice A5 on.length cap5) on]) (fun _ _ i _ => n3 - (intOf i).toNat)
    case atStart => exact ⟨0, rfl, Nat.zero_le _, rfl, rfl, M3.out⟩
    case round =>
      obtain ⟨k, rfl, hk, rfl, rfl, M⟩ := hrel
      have M4 := Lib.hid M
      clear M M3 M2 M0 HCL
      by_cases hlt : (k : Int) < n3
      · obtain ⟨b3, off3, fr, rfl, lb3, hfr, x0⟩ := Sl.at1 HO.out M4.out.held (k := k) (by omega)
        have HFR := Lib.hid hfr
        have HNX := Lib.hid (impTo_next (H := H) (L := L) (least := least) hfr)
        rw [HH.out.1] at HNX
        obtain ⟨st, hst⟩ : ∃ st, impTo H L on least k = st := ⟨_, rfl⟩
        rw [hst] at HNX M4 ⊢
        obtain ⟨wA, hwA⟩ : ∃ wA, wA = wr := ⟨_, rfl⟩
        rw [← hwA] at M4 x0 ⊢
        clear hwA wr hfr hst
        go_wp2
        go_loopw [8, 11, 39] (fun lst fnd i w2 => ∃ (t : Nat) (x : Int), i = .int .i64 t ∧ t ≤ n ∧ lst = .int .i64 (impIn H L on k fr st t).least ∧ fnd = .bool (impIn H L on k fr st t).found ∧ Mem w w2 [mvBox w.heap.size mv0, mvBox w1.heap.size (impIn H L on k fr st t).best, .row 3 1 inC w.heap.size (.slice A5 on.length cap5) (on.set k x)]) (fun _ _ i _ => n - (intOf i).toNat)
        case atStart => exact ⟨0, fr, rfl, Nat.zero_le _, rfl, rfl, by rw [set_same HFR.out]; exact M4.out⟩
        case round =>
          obtain ⟨t, x, rfl, ht, rfl, rfl, M⟩ := hrel
          have M5 := Lib.hid M
          clear M M4
          obtain ⟨sp, hsp⟩ : ∃ sp, impIn H L on k fr st t = sp := ⟨_, rfl⟩
          rw [hsp] at M5 ⊢
          have HI : Hid (impIn H L on k fr st (t + 1) = imp1 H L on k fr sp t) := show _ = _ by rw [impIn, hsp]
          have hkl : k < on.length := (List.getElem?_eq_some_iff.1 HFR.out).1
          have HXS : Hid ((on.set k x)[k]? = some x) := show _ = _ from List.getElem?_set_self hkl
          obtain ⟨g5, cap6, e5, _⟩ := own_blk (M5.out.row 2 rfl) (by rw [List.length_set]; omega)
          injection e5 with e5 e6 e7
          subst e5
          clear e6 e7 hkl
          obtain ⟨y0, yf, ylt⟩ := slot1 M5.out 2 rfl HXS.out
          have k0 : ¬ (k : Int) < 0 := by omega
          have hkn : (k : Int) < on.length := by have := HO.out.1; omega
          by_cases hlt2 : (t : Int) < n
          · by_cases htf : (t : Int) = fr
            · have hb : ((t : Int) == fr) = true := by simp [htf]
              have HN : Hid (impIn H L on k fr st (t + 1) = sp) := show _ = _ by rw [HI.out, imp1_same htf]
              clear htf
              go_wp2
              go_roundw
              case rel => exact ⟨t + 1, x, by go_num, by omega, by rw [HN.out], by rw [HN.out], by rw [HN.out]; exact M5.out⟩
              case measure => (simp [intOf]) <;> omega
            · have hb : ((t : Int) == fr) = false := by simp [htf]
              have M6 := Lib.hid (put1 M5.out 2 rfl HXS.out (t : Int))
              rw [List.set_set] at M6
              have HIY := Lib.hid (imp1_yes (H := H) (L := L) (on := on) (g := k) (st := sp) htf)
              have HIN := Lib.hid (imp1_no (H := H) (L := L) (on := on) (g := k) (st := sp) htf)
              have HLS : Hid ((on.set k (t : Int)).length = on.length) := show _ = _ from List.length_set
              have HSQ := Lib.hid (HSP.out (on.set k (t : Int)) (some ⟨g5, 0, none⟩) on.length cap5 _ M6.out.held (Own.reads inC_len (M6.out.row 2 rfl)).1)
              obtain ⟨p2, hp2⟩ : ∃ p2, spread H L (on.set k (t : Int)) = p2 := ⟨_, rfl⟩
              rw [hp2] at HSQ HIY HIN
              obtain ⟨sv, sb⟩ := p2
              simp only at HSQ HIY HIN
              clear htf hp2
              cases sb
              · have HN : Hid (impIn H L on k fr st (t + 1) = sp) := show _ = _ by rw [HI.out, HIN.out (by simp)]
                go_wp2_with (go_at_call 23; refine HSQ.out.mono ?_; rintro e w7 ⟨rfl, h7⟩; have M7 := Lib.hid (M6.out.keep h7))
                go_roundw
                case rel => exact ⟨t + 1, t, by go_num, by omega, by rw [HN.out], by rw [HN.out], by rw [HN.out]; exact M7.out⟩
                case measure => (simp [intOf]) <;> omega
              · by_cases hsv : sv < sp.least
                · have HN : Hid (impIn H L on k fr st (t + 1) = ⟨sv, ⟨k, fr, t⟩, true⟩) := show _ = _ by rw [HI.out, HIY.out rfl hsv]
                  go_wp2_with (go_at_call 23; refine HSQ.out.mono ?_; rintro e w7 ⟨rfl, h7⟩; have M7 := Lib.hid (M6.out.keep h7); obtain ⟨_, ⟨f0, f1, f2⟩, lt⟩ := M7.out.box3 1 rfl; have M8 := Lib.hid (((M7.out.put 1 rfl 0 (.int .i64 k)).put 1 rfl 1 (.int .i64 fr)).put 1 rfl 2 (.int .i64 t)))
                  go_roundw
                  case rel => exact ⟨t + 1, t, by go_num, by omega, by rw [HN.out], by rw [HN.out], by rw [HN.out]; exact M8.out⟩
                  case measure => (simp [intOf]) <;> omega
                · have HN : Hid (impIn H L on k fr st (t + 1) = sp) := show _ = _ by rw [HI.out, HIN.out (by simp; omega)]
                  go_wp2_with (go_at_call 23; refine HSQ.out.mono ?_; rintro e w7 ⟨rfl, h7⟩; have M7 := Lib.hid (M6.out.keep h7))
                  go_roundw
                  case rel => exact ⟨t + 1, t, by go_num, by omega, by rw [HN.out], by rw [HN.out], by rw [HN.out]; exact M7.out⟩
                  case measure => (simp [intOf]) <;> omega
          · obtain rfl : t = n := by omega
            have M6 := Lib.hid (put1 M5.out 2 rfl HXS.out fr)
            rw [List.set_set, set_same HFR.out] at M6
            rw [hsp] at HNX
            go_wp2
            go_roundw
            case rel => exact ⟨k + 1, by go_num, by omega, by rw [HNX.out], by rw [HNX.out], by rw [HNX.out]; exact M6.out⟩
            case measure => (simp [intOf]) <;> omega
      · obtain rfl : k = n3 := by omega
        obtain ⟨st, hst⟩ : ∃ st, impTo H L on least k = st := ⟨_, rfl⟩
        rw [hst] at HP M4 ⊢
        obtain ⟨⟨c0, c1, c2⟩, _, _⟩ := M4.out.box3 1 rfl
        obtain ⟨_, ⟨f0, f1, f2⟩, lt⟩ := M4.out.box3 0 rfl
        have M5 := Lib.hid (((M4.out.put 0 rfl 0 (.int .i64 st.best.g)).put 0 rfl 1 (.int .i64 st.best.f)).put 0 rfl 2 (.int .i64 st.best.t))
        clear hst
        go_wp2
        refine bodyPost_ret (Bx.res_ct Try.results24 rfl (mv_load (x := st.best) (M5.out.blk 0 rfl))) rfl ?_
        exact ⟨ret_mv HP.out, M5.out.held⟩
end Ba
end Go.Proofs.Ytmmjofdienoobaa
