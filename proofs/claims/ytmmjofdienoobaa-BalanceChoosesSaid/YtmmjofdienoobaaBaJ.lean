/-
  Contracts: the first placement (chapter 40), of the program.
-/
import Derived.Test.YtmmjofdienoobaaBaG
import Derived.Lib.QuietBelow
set_option linter.unusedVariables false
set_option linter.unusedSimpArgs false
set_option maxRecDepth 100000
namespace Go.Proofs.Ytmmjofdienoobaa
open Go.RowKit Go.BigFrame Go.Sort
namespace Ba
open Ad Adm
/-- What place hands back. -/
def PlTo (W : World) (g cap3 m gm n cm gc cc : Nat) (H : List Hc) (L : List Dem) (on : List Int) (F : List Ck) (r : Option (List Int)) (e : Ending) (w' : World) : Prop :=
  match r with
  | some q => e = .returned (.tuple #[.slice (some ⟨g, 0, none⟩) q.length cap3, .bool true]) ∧ Own 3 1 inC W.heap.size w' (.slice (some ⟨g, 0, none⟩) q.length cap3) q ∧ Held W w'
  | none => e = .returned (.tuple #[.slice none 0 0, .bool false]) ∧ Mem W w' (.row 3 1 inC W.heap.size (.slice (some ⟨g, 0, none⟩) m cap3) on :: .row 3 1 inC W.heap.size (.slice (some ⟨gm, 0, none⟩) n cm) (lm H (L.zip on)) :: .row 3 1 inC W.heap.size (.slice (some ⟨gc, 0, none⟩) n cc) (lc H (L.zip on)) :: F)
theorem slot1 {W w : World} {H : List Ck} (h : Mem W w H) (i : Nat) {g n cap base : Nat} {L : List Int} (hi : H[i]? = some (.row 3 1 inC base (.slice (some ⟨g, 0, none⟩) n cap) L)) {k : Nat} {x : Int} (hk : L[k]? = some x) :
    w.cell? ⟨g, k, none⟩ = some (.int .i64 x) ∧ w.frozen? ⟨g, k, none⟩ = false ∧ g < w.heap.size := by
  obtain ⟨hlt, rfl⟩ := List.getElem?_eq_some_iff.1 hk
  obtain ⟨g', x, e, h1, h2, h3, h4⟩ := h.slot i hi inC_len (by decide) hlt
  injection e with e
  injection e with e
  subst e
  obtain ⟨f0, c0⟩ := h4 0 (by decide)
  have := c0 _ rfl
  rw [List.getElem?_eq_getElem hlt] at h3
  injection h3 with h3
  rw [Nat.mul_one, Nat.add_zero] at this f0
  rw [← h3] at this
  exact ⟨this, f0, h2⟩
theorem put1 {W w : World} {H : List Ck} (h : Mem W w H) (i : Nat) {g n cap base : Nat} {L : List Int} (hi : H[i]? = some (.row 3 1 inC base (.slice (some ⟨g, 0, none⟩) n cap) L)) {k : Nat} {x : Int} (hk : L[k]? = some x) (y : Int) :
    Mem W (w.setCell ⟨g, k, none⟩ (.int .i64 y)) (H.set i (.row 3 1 inC base (.slice (some ⟨g, 0, none⟩) n cap) (L.set k y))) := by
  have := h.putAt i hi inC_len hk (j := 0) (by decide) (.int .i64 y) y rfl
  rw [Nat.mul_one, Nat.add_zero] at this
  exact this
set_option maxHeartbeats 2000000 in
theorem place_go (W : World) (A : Option Addr) (n cap : Nat) (A2 : Option Addr) (n2 cap2 : Nat) (H : List Hc) (L : List Dem) (hh : Sl 3 hcC W A n H) (hl : Sl 4 demC W A2 n2 L) (hn : (n : Int) ≤ 6) (hn2 : (n2 : Int) ≤ 8) (hv : L.all vd = true) :
    ∀ (f : Nat) (on : List Int) (m : Nat) (F : List Ck) (w : World) (g cap3 gm cm gc cc : Nat), on.length = m → m + f = n2 → n2 ≤ cap3 → n ≤ cm → n ≤ cc →
      Mem W w (.row 3 1 inC W.heap.size (.slice (some ⟨g, 0, none⟩) m cap3) on :: .row 3 1 inC W.heap.size (.slice (some ⟨gm, 0, none⟩) n cm) (lm H (L.zip on)) :: .row 3 1 inC W.heap.size (.slice (some ⟨gc, 0, none⟩) n cc) (lc H (L.zip on)) :: F) →
      Calls Try.prog 28 #[.slice A n cap, .slice A2 n2 cap2, .slice (some ⟨g, 0, none⟩) m cap3, .slice (some ⟨gm, 0, none⟩) n cm, .slice (some ⟨gc, 0, none⟩) n cc] w (PlTo W g cap3 m gm n cm gc cc H L on F (asg H L f on)) := by
  intro f
  have HH := Lib.hid hh
  have HL := Lib.hid hl
  have HV := Lib.hid hv
  clear hh hl hv
  induction f with
  | zero =>
    intro on m F w g cap3 gm cm gc cc hm hmf hcap hcm hcc M
    have hb : ((m : Int) == n2) = true := by simp; omega
    have M0 := Lib.hid M
    have HM := Lib.hid hm
    clear M hm
    go_enter Try.func28, Try.ntmps28
    go_wp2
    go_ret2
    have := M0.out.row 0 rfl
    show _ ∧ _ ∧ _
    rw [HM.out]
    exact ⟨rfl, this, M0.out.held⟩
  | succ f ih =>
    intro on m F w g cap3 gm cm gc cc hm hmf hcap hcm hcc M
    have HI := Lib.hid ih
    have hb : ((m : Int) == n2) = false := by simp; omega
    obtain ⟨b2, off2, d, rfl, lb2, hd, y0, y1, y2, y3⟩ := Sl.at4 HL.out M.held (k := m) (by omega)
    have HS := Lib.hid (asg_step (H := H) (f := f) (by rw [hm]; exact hd))
    rw [HH.out.1] at HS
    have hvd : vd d = true := List.all_eq_true.1 HV.out d (List.mem_of_getElem? hd)
    have hdb := vd_bd hvd
    have hdr0 : 0 ≤ d.r := hdb.1
    have hdc0 : 0 ≤ d.c := hdb.2.2.1
    have HVD := Lib.hid hvd
    have HZS := Lib.hid (fun x => zip_snoc (L := L) (on := on) (by rw [hm]; exact hd) x)
    have HM := Lib.hid hm
    have M1 := Lib.hid (M.alloc #[.int .i64 d.r, .int .i64 d.l, .int .i64 d.c, .int .i64 d.g] 43).front
    obtain ⟨r, hr⟩ : ∃ r, asg H L (f + 1) on = r := ⟨_, rfl⟩
    rw [hr] at HS ⊢
    have hm0 : (m : Int) < n2 := by omega
    have hm1 : ¬ (m : Int) < 0 := by omega
    clear M hm ih hd hvd hdb hr
    go_enter Try.func28, Try.ntmps28
    go_wp2
    go_loopw [31] (fun i wr => ∃ k : Nat, i = .int .i64 k ∧ k ≤ n ∧ first (gq H L f on d) k = none ∧ Mem W wr (.box w.heap.size #[.int .i64 d.r, .int .i64 d.l, .int .i64 d.c, .int .i64 d.g] 43 :: .row 3 1 inC W.heap.size (.slice (some ⟨g, 0, none⟩) m cap3) on :: .row 3 1 inC W.heap.size (.slice (some ⟨gm, 0, none⟩) n cm) (lm H (L.zip on)) :: .row 3 1 inC W.heap.size (.slice (some ⟨gc, 0, none⟩) n cc) (lc H (L.zip on)) :: F)) (fun i _ => n - (intOf i).toNat)
    case atStart => exact ⟨0, rfl, Nat.zero_le _, rfl, M1.out⟩
    case round =>
      obtain ⟨k, rfl, hk, hno, M⟩ := hrel
      have HN := Lib.hid hno
      have M2 := Lib.hid M
      clear hno M M1
      by_cases hlt : (k : Int) < n
      · obtain ⟨b, off, c, rfl, lb, hc, x0, x1, x2⟩ := Sl.at3 HH.out M2.out.held (k := k) (by omega)
        have HLM := Lib.hid (lm_at (Z := L.zip on) hc)
        have HLC := Lib.hid (lc_at (Z := L.zip on) hc)
        have HLS := Lib.hid (lm_set (Z := L.zip on) (d := d) hc)
        have HCS := Lib.hid (lc_set (Z := L.zip on) (d := d) hc)
        have HFN := Lib.hid (first_next HN.out)
        have HMY := Lib.hid (may_at (Z := L.zip on) (d := d) hc)
        obtain ⟨m', c', up⟩ := c
        simp only at x0 x1 x2 HLM HLC HLS HCS HMY
        have hgl := gu_len (L.zip on) k
        rw [List.length_zip, HL.out.1] at hgl
        have HAZ := Lib.hid (admit_zero (m := m') (c := c') (up := up) (G := gu (L.zip on) k) (d := d) (by omega) (gu_all HV.out) HVD.out)
        have hsb := sum_bd (gu (L.zip on) k) (gu_all HV.out)
        have hsr0 : 0 ≤ sumR (gu (L.zip on) k) := hsb.1
        have hsr1 : sumR (gu (L.zip on) k) ≤ 16000000 := by omega
        have hsc0 : 0 ≤ sumC (gu (L.zip on) k) := hsb.2.2.1
        have hsc1 : sumC (gu (L.zip on) k) ≤ 16000000 := by omega
        clear hsb hgl hc
        obtain ⟨x, hx⟩ : ∃ x, m' - sumR (gu (L.zip on) k) = x := ⟨_, rfl⟩
        obtain ⟨y, hy⟩ : ∃ y, c' - sumC (gu (L.zip on) k) = y := ⟨_, rfl⟩
        rw [hx] at HLM HLS HAZ
        rw [hy] at HLC HCS HAZ
        have M3 := Lib.hid (M2.out.alloc #[.int .i64 m', .int .i64 c', .bool up] 47).front
        obtain ⟨⟨a0, a1, a2⟩, _, alt⟩ := M3.out.box3 0 rfl
        obtain ⟨⟨e0, e1, e2, e3⟩, _, elt⟩ := M3.out.box4 1 rfl
        obtain ⟨mx0, _, mlt⟩ := slot1 M3.out 3 rfl HLM.out
        obtain ⟨cx0, _, clt⟩ := slot1 M3.out 4 rfl HLC.out
        have r0 := cell_regrown a0
        have r1 := cell_regrown a1
        have r2 := cell_regrown a2
        have r3 := cell_regrown e0
        have r4 := cell_regrown e1
        have r5 := cell_regrown e2
        have r6 := cell_regrown e3
        have r7 := cell_regrown mx0
        have r8 := cell_regrown cx0
        have hk0 : ¬ (k : Int) < 0 := by omega
        have k1 : (k : Int) < n := hlt
        obtain ⟨v, hvh⟩ : ∃ v, vh m' c' = v := ⟨_, rfl⟩
        obtain ⟨q, hq⟩ : ∃ q, grp (gu (L.zip on) k) d.g = q := ⟨_, rfl⟩
        have cA := Lib.hid fun dd os => Calls.regrown_of (d := dd) (os := os) (vh_any m' c' up (grow (redrawn (wr.alloc (.cells #[.int .i64 m', .int .i64 c', .bool up] 47)) dd) os))
        rw [hvh] at cA HAZ
        have hrow := (Own.reads inC_len (M3.out.row 2 rfl)).1
        have HRW := Lib.hid hrow
        have cB := Lib.hid fun dd os => Calls.regrown_of (d := dd) (os := os) ((grouped_any (some ⟨b2, off2, none⟩) n2 cap2 (some ⟨g, 0, none⟩) m cap3 L on k d.g (grow (redrawn (wr.alloc (.cells #[.int .i64 m', .int .i64 c', .bool up] 47)) dd) os) (HL.out.held (M3.out.held.step (below_regrown _ dd os))) (HRW.out.held (below_regrown _ dd os)) (by omega) (by omega)).mono fun e w' ⟨h1, h2⟩ => ⟨h1, h2 ▸ Below.refl _ _⟩)
        rw [hq] at cB
        have hq' : (d.g ≠ 0 ∧ clash (gu (L.zip on) k) d.g = true) ↔ q = true := by rw [← hq]; unfold grp; simp
        rw [hq'] at HAZ
        have HVH := Lib.hid hvh
        have HXY := Lib.hid (And.intro hx hy)
        clear hx hy hvh hq hq' hrow
        cases up
        · have HG : Hid (first (gq H L f on d) (k + 1) = none) := show _ = _ by
            rw [HFN.out]; unfold gq; rw [HMY.out, if_neg]
            rw [decide_eq_true_eq, HAZ.out]; simp
          go_wp2
          refine wp_region_quiet_below (by kernel_rfl) (by kernel_rfl) ?_
          repeat (go_big_quiet_step (first | (go_at_call 48; exact cA.out _ _) | (go_at_call 51; exact cB.out _ _)))
          refine wpQuiet_nil ?_
          intro w4 hw'
          obtain ⟨⟨dq, osq⟩, hw''⟩ := hw'
          have h4 : Held (wr.alloc (.cells #[.int .i64 m', .int .i64 c', .bool false] 47)) w4 := by rw [hw'']; exact below_regrown _ dq osq
          clear hw'' cA cB r0 r1 r2 r3 r4 r5 r6 r7 r8
          go_wp2
          go_roundw
          case rel => exact ⟨k + 1, by go_num, by omega, HG.out, (M3.out.keep h4).tail⟩
          case measure => (simp [intOf]) <;> omega
        · cases v
          · have HG : Hid (first (gq H L f on d) (k + 1) = none) := show _ = _ by
              rw [HFN.out]; unfold gq; rw [HMY.out, if_neg]
              rw [decide_eq_true_eq, HAZ.out]; simp
            go_wp2
            refine wp_region_quiet_below (by kernel_rfl) (by kernel_rfl) ?_
            repeat (go_big_quiet_step (first | (go_at_call 48; exact cA.out _ _) | (go_at_call 51; exact cB.out _ _)))
            refine wpQuiet_nil ?_
            intro w4 hw'
            obtain ⟨⟨dq, osq⟩, hw''⟩ := hw'
            have h4 : Held (wr.alloc (.cells #[.int .i64 m', .int .i64 c', .bool true] 47)) w4 := by rw [hw'']; exact below_regrown _ dq osq
            clear hw'' cA cB r0 r1 r2 r3 r4 r5 r6 r7 r8
            go_wp2
            go_roundw
            case rel => exact ⟨k + 1, by go_num, by omega, HG.out, (M3.out.keep h4).tail⟩
            case measure => (simp [intOf]) <;> omega
          · have hmb : (0 ≤ m' ∧ m' ≤ 1000000) ∧ (0 ≤ c' ∧ c' ≤ 1000000) := by
              have := HVH.out
              unfold vh at this
              simp only [Bool.and_eq_true] at this
              exact ⟨(units_iff _).1 this.1, (units_iff _).1 this.2⟩
            have hxb : x ≤ 1000000 := by have := HXY.out.1; omega
            have hyb : y ≤ 1000000 := by have := HXY.out.2; omega
            clear hmb
            by_cases h1 : x < d.r
            · have hb1 : decide (x < d.r) = true := by simp [h1]
              have HG : Hid (first (gq H L f on d) (k + 1) = none) := show _ = _ by
                rw [HFN.out]; unfold gq; rw [HMY.out, if_neg]
                rw [decide_eq_true_eq, HAZ.out]; simp only [h1]; simp
              go_wp2
              refine wp_region_quiet_below (by kernel_rfl) (by kernel_rfl) ?_
              repeat (go_big_quiet_step (first | (go_at_call 48; exact cA.out _ _) | (go_at_call 51; exact cB.out _ _)))
              refine wpQuiet_nil ?_
              intro w4 hw'
              obtain ⟨⟨dq, osq⟩, hw''⟩ := hw'
              have h4 : Held (wr.alloc (.cells #[.int .i64 m', .int .i64 c', .bool true] 47)) w4 := by rw [hw'']; exact below_regrown _ dq osq
              clear hw'' cA cB r0 r1 r2 r3 r4 r5 r6 r7 r8
              go_wp2
              go_roundw
              case rel => exact ⟨k + 1, by go_num, by omega, HG.out, (M3.out.keep h4).tail⟩
              case measure => (simp [intOf]) <;> omega
            · have hb1 : decide (x < d.r) = false := by simp; omega
              by_cases h2 : y < d.c
              · have hb2 : decide (y < d.c) = true := by simp [h2]
                have HG : Hid (first (gq H L f on d) (k + 1) = none) := show _ = _ by
                  rw [HFN.out]; unfold gq; rw [HMY.out, if_neg]
                  rw [decide_eq_true_eq, HAZ.out]; simp only [h2]; simp
                go_wp2
                refine wp_region_quiet_below (by kernel_rfl) (by kernel_rfl) ?_
                repeat (go_big_quiet_step (first | (go_at_call 48; exact cA.out _ _) | (go_at_call 51; exact cB.out _ _)))
                refine wpQuiet_nil ?_
                intro w4 hw'
                obtain ⟨⟨dq, osq⟩, hw''⟩ := hw'
                have h4 : Held (wr.alloc (.cells #[.int .i64 m', .int .i64 c', .bool true] 47)) w4 := by rw [hw'']; exact below_regrown _ dq osq
                clear hw'' cA cB r0 r1 r2 r3 r4 r5 r6 r7 r8
                go_wp2
                go_roundw
                case rel => exact ⟨k + 1, by go_num, by omega, HG.out, (M3.out.keep h4).tail⟩
                case measure => (simp [intOf]) <;> omega
              · have hb2 : decide (y < d.c) = false := by simp; omega
                cases q
                case true =>
                  have HG : Hid (first (gq H L f on d) (k + 1) = none) := show _ = _ by
                    rw [HFN.out]; unfold gq; rw [HMY.out, if_neg]
                    rw [decide_eq_true_eq, HAZ.out]; simp
                  go_wp2
                  refine wp_region_quiet_below (by kernel_rfl) (by kernel_rfl) ?_
                  repeat (go_big_quiet_step (first | (go_at_call 48; exact cA.out _ _) | (go_at_call 51; exact cB.out _ _)))
                  refine wpQuiet_nil ?_
                  intro w4 hw'
                  obtain ⟨⟨dq, osq⟩, hw''⟩ := hw'
                  have h4 : Held (wr.alloc (.cells #[.int .i64 m', .int .i64 c', .bool true] 47)) w4 := by rw [hw'']; exact below_regrown _ dq osq
                  clear hw'' cA cB r0 r1 r2 r3 r4 r5 r6 r7 r8
                  go_wp2
                  go_roundw
                  case rel => exact ⟨k + 1, by go_num, by omega, HG.out, (M3.out.keep h4).tail⟩
                  case measure => (simp [intOf]) <;> omega
                case false =>
                  have HMAY : Hid (may H (L.zip on) d k = true) := show _ = _ by rw [HMY.out, decide_eq_true_eq, HAZ.out]; simp; omega
                  have HG : Hid (first (gq H L f on d) (k + 1) = asg H L f (on ++ [(k : Int)])) := show _ = _ by rw [HFN.out]; unfold gq; rw [HMAY.out, if_pos rfl]
                  go_wp2
                  refine wp_region_quiet_below (by kernel_rfl) (by kernel_rfl) ?_
                  repeat (go_big_quiet_step (first | (go_at_call 48; exact cA.out _ _) | (go_at_call 51; exact cB.out _ _)))
                  refine wpQuiet_nil ?_
                  intro w4 hw'
                  obtain ⟨⟨dq, osq⟩, hw''⟩ := hw'
                  have h4 : Held (wr.alloc (.cells #[.int .i64 m', .int .i64 c', .bool true] 47)) w4 := by rw [hw'']; exact below_regrown _ dq osq
                  clear hw'' cA cB r0 r1 r2 r3 r4 r5 r6 r7 r8
                  have M4 := Lib.hid (M3.out.keep h4)
                  clear a0 a1 a2 e0 e1 e2 e3 mx0 cx0
                  obtain ⟨⟨e0, e1, e2, e3⟩, _, elt2⟩ := M4.out.box4 1 rfl
                  obtain ⟨mx0, mf, mlt2⟩ := slot1 M4.out 3 rfl HLM.out
                  go_wp2
                  go_region
                  have M5 := Lib.hid (put1 M4.out 3 rfl HLM.out (x - d.r)).drew
                  clear e0 e1 e2 e3 mx0 mf
                  obtain ⟨⟨e0, e1, e2, e3⟩, _, elt3⟩ := M5.out.box4 1 rfl
                  obtain ⟨cx0, cf, clt2⟩ := slot1 M5.out 4 rfl HLC.out
                  go_wp2
                  go_region
                  have M6 := Lib.hid (put1 M5.out 4 rfl HLC.out (y - d.c)).drew
                  clear e0 e1 e2 e3 cx0 cf
                  obtain ⟨r2, hr2⟩ : ∃ r2, asg H L f (on ++ [(k : Int)]) = r2 := ⟨_, rfl⟩
                  have HIH := Lib.hid (HI.out (on ++ [(k : Int)]) (m + 1) (.box wr.heap.size #[.int .i64 m', .int .i64 c', .bool true] 47 :: .box w.heap.size #[.int .i64 d.r, .int .i64 d.l, .int .i64 d.c, .int .i64 d.g] 43 :: F))
                  have HLE : Hid ((on ++ [(k : Int)]).length = m + 1) := show _ = _ by rw [List.length_append, HM.out]; rfl
                  rw [HZS.out, HLS.out, HCS.out, hr2] at HIH
                  rw [hr2] at HG
                  clear hr2
                  cases r2
                  case none =>
                    go_wp2_with (at_builtin; refine Mem.wp_app_in (M6.out.skip _) 2 rfl rfl _ _ _ rfl _ 8 Try.underlying22 info_int rfl (by decide) inC_len inC_one (k : Int) ⟨w4.heap.size, 0, none⟩ 1 rfl rfl (cells_new _ (by simp) _ _) HM.out (by omega) (by omega) (by decide) ?_; intro w7 M7)
                    refine (HIH.out w7 g cap3 gm cm gc cc HLE.out (by omega) hcap hcm hcc (Mem.swap (A := [_, _]) (B := [_, _, _]) (F := F) M7)).mono ?_
                    rintro e w8 hp
                    obtain ⟨rfl, M8⟩ : _ ∧ _ := hp
                    rw [HZS.out, HLS.out, HCS.out] at M8
                    have M9 := Lib.hid (Mem.shrink M8 0 inC_len HM.out rfl)
                    clear M7 M8
                    have HLX : Hid (((lm H (L.zip on)).set k (x - d.r))[k]? = some (x - d.r)) := show _ = _ from List.getElem?_set_self (List.getElem?_eq_some_iff.1 HLM.out).1
                    have HCX : Hid (((lc H (L.zip on)).set k (y - d.c))[k]? = some (y - d.c)) := show _ = _ from List.getElem?_set_self (List.getElem?_eq_some_iff.1 HLC.out).1
                    obtain ⟨⟨e0, e1, e2, e3⟩, _, elt4⟩ := M9.out.box4 4 rfl
                    obtain ⟨mx0, mf, mlt4⟩ := slot1 M9.out 1 rfl HLX.out
                    go_wp2
                    go_region
                    have M10 := Lib.hid (put1 M9.out 1 rfl HLX.out x).drew
                    clear e0 e1 e2 e3 mx0 mf
                    obtain ⟨⟨e0, e1, e2, e3⟩, _, elt5⟩ := M10.out.box4 4 rfl
                    obtain ⟨cx0, cf, clt5⟩ := slot1 M10.out 2 rfl HCX.out
                    go_wp2
                    go_region
                    have M11 := Lib.hid (put1 M10.out 2 rfl HCX.out y).drew
                    go_wp2
                    go_roundw
                    case rel =>
                      have hz := Mem.tail (Mem.swap (A := [_, _, _]) (B := [_, _]) (F := F) M11.out)
                      rw [set_back HLM.out, set_back HLC.out] at hz
                      exact ⟨k + 1, by go_num, by omega, HG.out, hz⟩
                    case measure => (simp [intOf]) <;> omega
                  case some q =>
                    go_wp2_with (at_builtin; refine Mem.wp_app_in (M6.out.skip _) 2 rfl rfl _ _ _ rfl _ 8 Try.underlying22 info_int rfl (by decide) inC_len inC_one (k : Int) ⟨w4.heap.size, 0, none⟩ 1 rfl rfl (cells_new _ (by simp) _ _) HM.out (by omega) (by omega) (by decide) ?_; intro w7 M7)
                    refine (HIH.out w7 g cap3 gm cm gc cc HLE.out (by omega) hcap hcm hcc (Mem.swap (A := [_, _]) (B := [_, _, _]) (F := F) M7)).mono ?_
                    rintro e w8 hp
                    obtain ⟨rfl, ho, hh⟩ : _ ∧ _ ∧ _ := hp
                    go_wp2
                    go_ret2
                    rw [HS.out, first_stay HG.out n (by omega)]
                    exact ⟨rfl, ho, hh⟩
      · obtain rfl : k = n := by omega
        rw [HN.out] at HS
        go_wp2
        go_ret2
        rw [HS.out]
        exact ⟨rfl, M2.out.tail⟩
end Ba
end Go.Proofs.Ytmmjofdienoobaa
