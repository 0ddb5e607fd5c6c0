/-
  Contracts: moved, Improve (chapter 40), of the reference.
-/
import Derived.Test.YtmmjofdienoobaaBaE
set_option linter.unusedVariables false
set_option linter.unusedSimpArgs false
set_option maxRecDepth 100000
namespace Go.Proofs.Ytmmjofdienoobaa
open Go.RowKit
namespace Ba
open Ad Adm
set_option maxHeartbeats 1000000 in
theorem moved_any (A : Option Addr) (n cap : Nat) (on : List Int) (g : Nat) (t : Int) (w : World) (ho : Sl 1 inC w A n on) (hg : g < n) (hn : (n : Int) ≤ 1000000) :
    Calls Try.prog 56 #[.slice A n cap, .int .i64 g, .int .i64 t] w (MkIs (on.set g t) w) := by
  have HO := Lib.hid ho
  obtain ⟨x, hx⟩ : ∃ x, on[g]? = some x := ⟨_, List.getElem?_eq_getElem (by rw [ho.1]; exact hg)⟩
  have HX := Lib.hid hx
  have M1 := Lib.hid ((Mem.start w).emptyRow (b := w.heap.size) rfl (e := 3) (s := 1) (f := inC))
  have k0 : ¬ (g : Int) < 0 := by omega
  have k1 : (g : Int) < n := by omega
  clear ho hx
  go_enter Try.func56, Try.ntmps56
  go_wp2_with (at_builtin; refine Mem.wp_cat M1.out 0 rfl rfl _ _ _ rfl _ 8 Try.underlying22 info_int rfl (by decide) inC_len inC_one on A n cap rfl rfl (HO.out.held ((Held.refl w).alloc _)) rfl (by omega) (by decide) ?_; intro A8 cap8 w8 M8 hA8; simp only [Nat.zero_add, List.nil_append] at M8 ⊢; have M9 := Lib.hid M8; obtain ⟨g5, cap6, e5, _⟩ := own_blk (M8.row 0 rfl) (by rw [HO.out.1]; omega); injection e5 with e5 e6 e7; subst e5; clear e6 e7 M8 hA8; obtain ⟨y0, yf, ylt⟩ := slot1 M9.out 0 rfl HX.out)
  have M10 := Lib.hid (put1 M9.out 0 rfl HX.out t)
  go_ret
  exact Mks.mk (M10.out.row 0 rfl) M10.out.held
theorem spread_ok {H : List Hc} {L : List Dem} {on : List Int} (h : (spread H L on).2 = true) : place H L on = true := by
  cases hp : place H L on
  · rw [spread_no hp] at h; cases h
  · rfl
set_option maxHeartbeats 2000000 in
theorem improve_ref (A : Option Addr) (n cap : Nat) (A2 : Option Addr) (n2 cap2 : Nat) (A3 : Option Addr) (n3 cap3 : Nat) (H : List Hc) (L : List Dem) (on : List Int) (w : World)
    (hh : Sl 3 hcC w A n H) (hl : Sl 4 demC w A2 n2 L) (ho : Sl 1 inC w A3 n3 on) :
    Calls Try.prog 40 #[.slice A n cap, .slice A2 n2 cap2, .slice A3 n3 cap3] w fun e w' => e = .returned (.tuple #[.agg #[.int .i64 (improve H L on).1.g, .int .i64 (improve H L on).1.f, .int .i64 (improve H L on).1.t], .bool (improve H L on).2]) ∧ Held w w' := by
  have HH := Lib.hid hh
  have HL := Lib.hid hl
  have HO := Lib.hid ho
  have HSP := Lib.hid (fun on' B n3 cap3 w' (q : Held w w') (h : Sl 1 inC w' B n3 on') => spread_ref A n cap A2 n2 cap2 B n3 cap3 H L on' w' (hh.held q) (hl.held q) h)
  have M0 := Lib.hid ((Mem.start w).alloc #[.int .i64 0, .int .i64 0, .int .i64 0] 37)
  have HS1 := Lib.hid (HSP.out on A3 n3 cap3 _ M0.out.held (HO.out.held M0.out.held))
  obtain ⟨p, hp⟩ : ∃ p, spread H L on = p := ⟨_, rfl⟩
  rw [hp] at HS1
  obtain ⟨least, ok⟩ := p
  simp only at HS1
  clear hh hl ho
  cases ok
  · have HP := Lib.hid (improve_no (by rw [hp]))
    clear hp
    go_enter Try.func40, Try.ntmps40
    go_wp2_with (go_at_call 38; refine HS1.out.mono ?_; rintro e w1 ⟨rfl, h1⟩; have M2 := Lib.hid ((M0.out.keep h1).alloc #[.int .i64 0, .int .i64 0, .int .i64 0] 37); clear HS1)
    go_loopw [11, 12] (fun fnd i wr => i = .int .i64 0 ∧ fnd = .bool false ∧ Mem w wr [mvBox w.heap.size mv0, mvBox w1.heap.size mv0]) (fun _ i _ => 0)
    case atStart => exact ⟨rfl, rfl, M2.out⟩
    case round =>
      obtain ⟨rfl, rfl, M⟩ := hrel
      have M4 := Lib.hid M
      obtain ⟨⟨c0, c1, c2⟩, _, _⟩ := M4.out.box3 1 rfl
      obtain ⟨_, ⟨f0, f1, f2⟩, lt⟩ := M4.out.box3 0 rfl
      unfold mv0 at c0 c1 c2
      simp only at c0 c1 c2
      have M5 := Lib.hid (((M4.out.put 0 rfl 0 (.int .i64 0)).put 0 rfl 1 (.int .i64 0)).put 0 rfl 2 (.int .i64 0))
      clear M
      by_cases hz : (0 : Int) < n2
      · go_wp2
        refine bodyPost_ret (Bx.res_ct Try.results40 rfl (mv_load (x := mv0) (M5.out.blk 0 rfl))) rfl ?_
        exact ⟨ret_mv HP.out, M5.out.held⟩
      · go_wp2
        refine bodyPost_ret (Bx.res_ct Try.results40 rfl (mv_load (x := mv0) (M5.out.blk 0 rfl))) rfl ?_
        exact ⟨ret_mv HP.out, M5.out.held⟩
  · have HP := Lib.hid (improve_yes (by rw [hp]))
    have hbd := place_bd (spread_ok (by rw [hp]))
    rw [HH.out.1, HL.out.1, HO.out.1] at hbd
    obtain rfl : n3 = n2 := by omega
    have hn1 : (n : Int) ≤ 6 := by omega
    have hn2 : (n3 : Int) ≤ 16 := by omega
    rw [hp, HO.out.1] at HP
    clear hp hbd
    go_enter Try.func40, Try.ntmps40
    go_wp2_with (go_at_call 38; refine HS1.out.mono ?_; rintro e w1 ⟨rfl, h1⟩; have M2 := Lib.hid ((M0.out.keep h1).alloc #[.int .i64 0, .int .i64 0, .int .i64 0] 37); clear HS1)
    go_loopw [8, 11, 12] (fun lst fnd i wr => ∃ k : Nat, i = .int .i64 k ∧ k ≤ n3 ∧ lst = .int .i64 (impTo H L on least k).least ∧ fnd = .bool (impTo H L on least k).found ∧ Mem w wr [mvBox w.heap.size mv0, mvBox w1.heap.size (impTo H L on least k).best]) (fun _ _ i _ => n3 - (intOf i).toNat)
    case atStart => exact ⟨0, rfl, Nat.zero_le _, rfl, rfl, M2.out⟩
    case round =>
      obtain ⟨k, rfl, hk, rfl, rfl, M⟩ := hrel
      have M4 := Lib.hid M
      clear M M2 M0
      by_cases hlt : (k : Int) < n3
      · obtain ⟨b3, off3, fr, rfl, lb3, hfr, x0⟩ := Sl.at1 HO.out M4.out.held (k := k) (by omega)
        have HFR := Lib.hid hfr
        have HNX := Lib.hid (impTo_next (H := H) (L := L) (least := least) hfr)
        rw [HH.out.1] at HNX
        obtain ⟨st, hst⟩ : ∃ st, impTo H L on least k = st := ⟨_, rfl⟩
        rw [hst] at HNX M4 ⊢
        obtain ⟨wA, hwA⟩ : ∃ wA, wA = wr := ⟨_, rfl⟩
        rw [← hwA] at M4 x0 ⊢
        clear hwA wr hfr hst x0
        go_wp2
        go_loopw [8, 11, 13] (fun lst fnd i w2 => ∃ (t : Nat), i = .int .i64 t ∧ t ≤ n ∧ lst = .int .i64 (impIn H L on k fr st t).least ∧ fnd = .bool (impIn H L on k fr st t).found ∧ Mem w w2 [mvBox w.heap.size mv0, mvBox w1.heap.size (impIn H L on k fr st t).best]) (fun _ _ i _ => n - (intOf i).toNat)
        case atStart => exact ⟨0, rfl, Nat.zero_le _, rfl, rfl, M4.out⟩
        case round =>
          obtain ⟨t, rfl, ht, rfl, rfl, M⟩ := hrel
          have M5 := Lib.hid M
          clear M M4
          obtain ⟨sp, hsp⟩ : ∃ sp, impIn H L on k fr st t = sp := ⟨_, rfl⟩
          rw [hsp] at M5 ⊢
          have HI : Hid (impIn H L on k fr st (t + 1) = imp1 H L on k fr sp t) := show _ = _ by rw [impIn, hsp]
          have k0 : ¬ (k : Int) < 0 := by omega
          by_cases hlt2 : (t : Int) < n
          · obtain ⟨b4, off4, fr', e4, _, hfr', x0⟩ := Sl.at1 HO.out M5.out.held (k := k) (by omega)
            injection e4 with e4
            injection e4 with e4 e5
            subst e4 e5
            obtain rfl : fr = fr' := by have := HFR.out; rw [this] at hfr'; injection hfr'
            clear hfr'
            by_cases htf : (t : Int) = fr
            · have hb : ((t : Int) == fr) = true := by simp [htf]
              have HN : Hid (impIn H L on k fr st (t + 1) = sp) := show _ = _ by rw [HI.out, imp1_same htf]
              clear htf
              go_wp2
              go_roundw
              case rel => exact ⟨t + 1, by go_num, by omega, by rw [HN.out], by rw [HN.out], by rw [HN.out]; exact M5.out⟩
              case measure => (simp [intOf]) <;> omega
            · have hb : ((t : Int) == fr) = false := by simp [htf]
              have HIY := Lib.hid (imp1_yes (H := H) (L := L) (on := on) (g := k) (st := sp) htf)
              have HIN := Lib.hid (imp1_no (H := H) (L := L) (on := on) (g := k) (st := sp) htf)
              have HMV := Lib.hid (moved_any (some ⟨b3, off3, none⟩) n3 cap3 on k t wr (HO.out.held M5.out.held) (by omega) (by omega))
              have HSQ := Lib.hid (fun B cap5 w' (q : Held w w') (h : Sl 1 inC w' B (on.set k (t : Int)).length (on.set k (t : Int))) => HSP.out (on.set k (t : Int)) B _ cap5 w' q h)
              obtain ⟨on', hon'⟩ : ∃ on', on.set k (t : Int) = on' := ⟨_, rfl⟩
              rw [hon'] at HMV HSQ HIY HIN
              obtain ⟨p2, hp2⟩ : ∃ p2, spread H L on' = p2 := ⟨_, rfl⟩
              rw [hp2] at HSQ HIY HIN
              obtain ⟨sv, sb⟩ := p2
              simp only at HSQ HIY HIN
              clear htf hp2 hon'
              cases sb
              · have HN : Hid (impIn H L on k fr st (t + 1) = sp) := show _ = _ by rw [HI.out, HIN.out (by simp)]
                go_wp2_with (first | (go_at_call 56; refine HMV.out.mono ?_; rintro e w6 ⟨A6, cap6, rfl, _, ho6, h6⟩; have M6 := Lib.hid (M5.out.keep h6); have HO6 := Lib.hid (Own.reads inC_len ho6).1; clear ho6) | (go_at_call 38; refine (HSQ.out _ _ _ M6.out.held HO6.out).mono ?_; rintro e w7 ⟨rfl, h7⟩; have M7 := Lib.hid (M6.out.keep h7); obtain ⟨_, ⟨f0, f1, f2⟩, lt⟩ := M7.out.box3 1 rfl; have x1 := h7.cell (h6.cell x0)))
                go_roundw
                case rel => exact ⟨t + 1, by go_num, by omega, by rw [HN.out], by rw [HN.out], by rw [HN.out]; exact M7.out⟩
                case measure => (simp [intOf]) <;> omega
              · by_cases hsv : sv < sp.least
                · have HN : Hid (impIn H L on k fr st (t + 1) = ⟨sv, ⟨k, fr, t⟩, true⟩) := show _ = _ by rw [HI.out, HIY.out rfl hsv]
                  have HX0 := Lib.hid (And.intro (lt_of_cell x0) x0)
                  go_wp2_with (first | (go_at_call 56; refine HMV.out.mono ?_; rintro e w6 ⟨A6, cap6, rfl, _, ho6, h6⟩; have M6 := Lib.hid (M5.out.keep h6); have HO6 := Lib.hid (Own.reads inC_len ho6).1; clear ho6) | (go_at_call 38; refine (HSQ.out _ _ _ M6.out.held HO6.out).mono ?_; rintro e w7 ⟨rfl, h7⟩; have M7 := Lib.hid (M6.out.keep h7); obtain ⟨_, ⟨f0, f1, f2⟩, lt⟩ := M7.out.box3 1 rfl; have x1 := h7.cell (h6.cell x0)))
                  have M8 := Lib.hid (((M7.out.put 1 rfl 0 (.int .i64 k)).put 1 rfl 1 (.int .i64 fr)).put 1 rfl 2 (.int .i64 t))
                  go_roundw
                  case rel => exact ⟨t + 1, by go_num, by omega, by rw [HN.out], by rw [HN.out], by rw [HN.out]; exact M8.out⟩
                  case measure => (simp [intOf]) <;> omega
                · have HN : Hid (impIn H L on k fr st (t + 1) = sp) := show _ = _ by rw [HI.out, HIN.out (by simp; omega)]
                  go_wp2_with (first | (go_at_call 56; refine HMV.out.mono ?_; rintro e w6 ⟨A6, cap6, rfl, _, ho6, h6⟩; have M6 := Lib.hid (M5.out.keep h6); have HO6 := Lib.hid (Own.reads inC_len ho6).1; clear ho6) | (go_at_call 38; refine (HSQ.out _ _ _ M6.out.held HO6.out).mono ?_; rintro e w7 ⟨rfl, h7⟩; have M7 := Lib.hid (M6.out.keep h7); obtain ⟨_, ⟨f0, f1, f2⟩, lt⟩ := M7.out.box3 1 rfl; have x1 := h7.cell (h6.cell x0)))
                  go_roundw
                  case rel => exact ⟨t + 1, by go_num, by omega, by rw [HN.out], by rw [HN.out], by rw [HN.out]; exact M7.out⟩
                  case measure => (simp [intOf]) <;> omega
          · obtain rfl : t = n := by omega
            rw [hsp] at HNX
            go_wp2
            go_roundw
            case rel => exact ⟨k + 1, by go_num, by omega, by rw [HNX.out], by rw [HNX.out], by rw [HNX.out]; exact M5.out⟩
            case measure => (simp [intOf]) <;> omega
      · obtain rfl : k = n3 := by omega
        obtain ⟨st, hst⟩ : ∃ st, impTo H L on least k = st := ⟨_, rfl⟩
        rw [hst] at HP M4 ⊢
        obtain ⟨⟨c0, c1, c2⟩, _, _⟩ := M4.out.box3 1 rfl
        obtain ⟨_, ⟨f0, f1, f2⟩, lt⟩ := M4.out.box3 0 rfl
        have M5 := Lib.hid (((M4.out.put 0 rfl 0 (.int .i64 st.best.g)).put 0 rfl 1 (.int .i64 st.best.f)).put 0 rfl 2 (.int .i64 st.best.t))
        clear hst
        go_wp2
        refine bodyPost_ret (Bx.res_ct Try.results40 rfl (mv_load (x := st.best) (M5.out.blk 0 rfl))) rfl ?_
        exact ⟨ret_mv HP.out, M5.out.held⟩
end Ba
end Go.Proofs.Ytmmjofdienoobaa
