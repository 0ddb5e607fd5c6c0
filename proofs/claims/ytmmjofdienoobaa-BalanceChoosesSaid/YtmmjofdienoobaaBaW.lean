/-
  Contracts: Evacuate (chapter 40), of the program.
-/
import Derived.Test.YtmmjofdienoobaaBaQ
import Derived.Test.YtmmjofdienoobaaSlcDm
set_option linter.unusedVariables false
set_option linter.unusedSimpArgs false
set_option maxRecDepth 100000
namespace Go.Proofs.Ytmmjofdienoobaa
open Go.RowKit
namespace Ba
open Ad Adm
/-- What Evacuate hands back. -/
def EvTo (r : Option (List Mv × List Int)) (w : World) (e : Ending) (w' : World) : Prop :=
  ∃ A n cap B m c, e = .returned (.tuple #[.slice A n cap, .slice B m c, .bool r.isSome]) ∧ Sl 3 mvC w' A n (r.getD ([], [])).1 ∧ Sl 1 inC w' B m (r.getD ([], [])).2 ∧ Held w w'
theorem EvTo.no {r : Option (List Mv × List Int)} {w w' : World} (hr : r = none) (h : Held w w') : EvTo r w (.returned (.tuple #[.slice none 0 0, .slice none 0 0, .bool false])) w' := by
  subst hr; exact ⟨none, 0, 0, none, 0, 0, rfl, Sl.nil w' none, Sl.nil w' none, h⟩
theorem evac_no {H : List Hc} {L : List Dem} {on : List Int} {host : Int} (h : ¬ (place H L on = true ∧ 0 ≤ host ∧ host < H.length)) : evacuate H L on host = none := by unfold evacuate; rw [if_neg h]
theorem evac_yes {H : List Hc} {L : List Dem} {on : List Int} {host : Int} (h : place H L on = true ∧ 0 ≤ host ∧ host < H.length) : evacuate H L on host = evTo H L on host L.length := by unfold evacuate; rw [if_pos h]
theorem choose_place {H : List Hc} {L : List Dem} {on : List Int} {d : Dem} {no : List Int} {i : Nat} (hi : i < L.length) (h : place H L on = true) : choose H (L.eraseIdx i) (on.eraseIdx i) d no = chooseZ H ((L.zip on).eraseIdx i) d no := by
  rw [choose_yes (place_erase hi h), zip_erase]
theorem erase_eq {α : Type} (L : List α) (i : Nat) : L.take i ++ L.drop (i + 1) = L.eraseIdx i := (List.eraseIdx_eq_take_drop_succ L i).symm
/-- A slice of one number that was just made. -/
theorem sl_one {w : World} {b : Nat} (hb : w.heap.size = b) (x : Int) : Sl 1 inC (w.alloc (.cells #[.int .i64 x] 3)) (some ⟨b, 0, none⟩) 1 [x] := by
  subst hb
  refine ⟨rfl, .inr ⟨_, 0, rfl, by simp, fun k hk j v hv => ?_⟩⟩
  have hk : k = 0 := by simpa using hk
  subst hk
  have hj := (List.getElem?_eq_some_iff.1 hv).1
  have hj : j = 0 := by simpa [inC] using hj
  subst hj
  simp only [List.getElem_cons_zero, inC, List.getElem?_cons_zero] at hv
  injection hv with hv
  subst hv
  have hn := heap_alloc_new w (.cells #[.int .i64 x] 3)
  simp only [World.cell?, hn, Nat.zero_mul, Nat.add_zero]
  rfl
/-- What Delete leaves of a row. -/
theorem Mem.got {W w w' : World} {H : List Ck} {α : Type} {e : TypeId} {s : Nat} {f : α → List Value} {base : Nat} (h : Mem W w H) (i : Nat) {v : Value} {L M : List α} {r : Ending} (hi : H[i]? = some (.row e s f base v L)) (g : Sg.Got e s f base v M w r w') :
    ∃ A cap, r = .returned (.slice A M.length cap) ∧ M.length ≤ cap ∧ Mem W w' (H.set i (.row e s f base (.slice A M.length cap) M)) := by
  obtain ⟨v', rfl, ho, hg, hb⟩ := g
  obtain ⟨A, cap, rfl, hc, _⟩ := ho.shape
  refine ⟨A, cap, rfl, hc, h.app i hi hg ho fun b hb' => ?_⟩
  rcases hb with hb | ⟨g, h1, h2⟩
  · exact .inl (by rw [← hb]; exact hb')
  · rw [h1] at hb'; injection hb' with hb'; subst hb'; exact .inr h2
set_option maxHeartbeats 2000000 in
theorem evac_any (A : Option Addr) (n cap : Nat) (A2 : Option Addr) (n2 cap2 : Nat) (A3 : Option Addr) (n3 cap3 : Nat) (host : Int) (H : List Hc) (L : List Dem) (on : List Int) (w : World)
    (hh : Sl 3 hcC w A n H) (hl : Sl 4 demC w A2 n2 L) (ho : Sl 1 inC w A3 n3 on) (hA2 : A2 = none → n2 = 0) (hA3 : A3 = none → n3 = 0) :
    Calls Try.prog 14 #[.slice A n cap, .slice A2 n2 cap2, .slice A3 n3 cap3, .int .i64 host] w (EvTo (evacuate H L on host) w) := by
  have HH := Lib.hid hh
  have HL := Lib.hid hl
  have HO := Lib.hid ho
  have HV := Lib.hid (valid_any A n cap A2 n2 cap2 A3 n3 cap3 H L on w hh hl ho)
  obtain ⟨p, hp⟩ : ∃ p, place H L on = p := ⟨_, rfl⟩
  rw [hp] at HV
  cases p
  · have HP := Lib.hid (evac_no (host := host) (H := H) (L := L) (on := on) (by rw [hp]; simp))
    clear hp hh hl ho hA2 hA3
    go_enter Try.func14, Try.ntmps14
    go_wp2_with (go_at_call 30; refine HV.out.mono ?_; rintro e w1 ⟨rfl, h1⟩)
    go_ret3
    exact EvTo.no HP.out h1
  · by_cases h0 : host < 0
    · have HP := Lib.hid (evac_no (host := host) (H := H) (L := L) (on := on) (by omega))
      clear hp hh hl ho hA2 hA3
      go_enter Try.func14, Try.ntmps14
      go_wp2_with (go_at_call 30; refine HV.out.mono ?_; rintro e w1 ⟨rfl, h1⟩)
      go_ret3
      exact EvTo.no HP.out h1
    by_cases h9 : (n : Int) ≤ host
    · have HP := Lib.hid (evac_no (host := host) (H := H) (L := L) (on := on) (by rw [hh.1]; omega))
      clear hp hh hl ho hA2 hA3
      go_enter Try.func14, Try.ntmps14
      go_wp2_with (go_at_call 30; refine HV.out.mono ?_; rintro e w1 ⟨rfl, h1⟩)
      go_ret3
      exact EvTo.no HP.out h1
    have HP := Lib.hid (evac_yes (host := host) (H := H) (L := L) (on := on) ⟨hp, by omega, by rw [hh.1]; omega⟩)
    rw [hl.1] at HP
    have HPL := Lib.hid (ev_place (host := host) hp)
    rw [hl.1] at HPL
    have hbd := place_bd hp
    rw [hh.1, hl.1, ho.1] at hbd
    obtain rfl : n3 = n2 := by omega
    have hn1 : (n : Int) ≤ 6 := by omega
    have hn3 : (n3 : Int) ≤ 16 := by omega
    have HCL := Lib.hid (fun (x : List Int) B c w' (hx : Sl 1 inC w' B n3 x) (hB : B = none → n3 = 0) => SlcIn.clone_any inC_len inC_one B n3 c x w' hx hB (by omega))
    have HCD := Lib.hid (fun w' (q : Held w w') => SlcDm.clone_any demC_len demC_one A2 n3 cap2 L w' (HL.out.held q) hA2 (by omega))
    have HA3 := Lib.hid hA3
    have HCH := Lib.hid (fun (L' : List Dem) (x' no : List Int) B n2 c2 C n3 c3 D (d : Dem) w' (q : Held w w') (h1 : Sl 4 demC w' B n2 L') (h2 : Sl 1 inC w' C n3 x') (h3 : Sl 1 inC w' D 1 no) => choose_any A n cap B n2 c2 C n3 c3 D 1 1 H L' x' no d w' (HH.out.held q) h1 h2 h3 (by omega))
    obtain ⟨R, hR⟩ : ∃ R, evacuate H L on host = R := ⟨_, rfl⟩
    rw [hR] at HP ⊢
    have HLL : Hid (L.length = n3) := HL.out.1
    have HPO := Lib.hid hp
    clear hp hh hl ho hA2 hA3 hbd hR
    go_enter Try.func14, Try.ntmps14
    go_wp2_with (first | (go_at_call 30; refine HV.out.mono ?_; rintro e w1 ⟨rfl, h1⟩) | (go_at_call 31; refine (HCL.out on A3 cap3 _ (HO.out.held h1) HA3.out).mono ?_; rintro e w3 ⟨v3, rfl, ho3, h3⟩; have M3 := Lib.hid (((Mem.of h1).own h3 ho3).nilRow (e := 37) (s := 3) (f := mvC)); obtain ⟨A5, cap5, rfl, _⟩ := ho3.shape; have HA5 : Hid (A5 = none → n3 = 0) := (fun hn => HO.out.1.symm.trans (own_none ho3 hn)); clear ho3))
    go_loopw [12, 38] (fun v i wr => ∃ (k : Nat) (ms : List Mv) (x : List Int), i = .int .i64 k ∧ k ≤ n3 ∧ x.length = n3 ∧ evTo H L on host k = some (ms, x) ∧ ms.length ≤ k ∧ Mem w wr [.row 3 1 inC w.heap.size (.slice A5 on.length cap5) x, .row 37 3 mvC w.heap.size v ms]) (fun _ i _ => n3 - (intOf i).toNat)
    case atStart => exact ⟨0, [], on, rfl, Nat.zero_le _, HO.out.1, rfl, Nat.zero_le _, M3.out⟩
    case round =>
      obtain ⟨k, ms, x, rfl, hk, hx, hev, hms, M⟩ := hrel
      have HX := Lib.hid hx
      have HEV := Lib.hid hev
      have HOL : Hid (on.length = n3) := HO.out.1
      rw [HOL.out] at M ⊢
      have M4 := Lib.hid M
      clear M M3 hx hev
      have HPX := Lib.hid (HPL.out k hk _ HEV.out)
      simp only at HPX
      by_cases hlt : (k : Int) < n3
      · obtain ⟨b, off, d, rfl, lb, hd, x0, x1, x2, x3⟩ := Sl.at4 HL.out M4.out.held (k := k) (by omega)
        obtain ⟨b3, off3, oh, rfl, lb3, hoh, o0⟩ := Sl.at1 HO.out M4.out.held (k := k) (by omega)
        have HNX := Lib.hid (evTo_next HEV.out hd hoh)
        simp only at HNX
        have hlb := lt_of_cell o0
        simp only at hlb
        have M5 := Lib.hid (M4.out.alloc #[.int .i64 d.r, .int .i64 d.l, .int .i64 d.c, .int .i64 d.g] 43)
        clear hd hoh
        by_cases he : oh = host
        · have hb : (oh != host) = false := by simp [he]
          rw [if_pos he] at HNX
          subst he
          have HCP := Lib.hid (choose_place (H := H) (L := L) (on := x) (i := k) (d := d) (no := [oh]) (by rw [HLL.out]; omega) HPX.out)
          obtain ⟨p2, hp2⟩ : ∃ p2, chooseZ H ((L.zip x).eraseIdx k) d [oh] = p2 := ⟨_, rfl⟩
          rw [hp2] at HNX HCP
          have HCZ := Lib.hid (chooseZ_ok (H := H) (Z := (L.zip x).eraseIdx k) (d := d) (no := [oh]))
          rw [hp2] at HCZ
          obtain ⟨to, ok⟩ := p2
          simp only at HNX HCZ
          have hel : (L.eraseIdx k).length = n3 - 1 := by rw [List.length_eraseIdx_of_lt (by rw [HLL.out]; omega), HLL.out]
          have hex : (x.eraseIdx k).length = n3 - 1 := by rw [List.length_eraseIdx_of_lt (by rw [HX.out]; omega), HX.out]
          have HEL := Lib.hid (And.intro hel hex)
          have hkx : (k : Int) < n3 := hlt
          have hk0 : ¬ (k : Int) < 0 := by omega
          obtain ⟨xo, hxo⟩ : ∃ xo, x[k]? = some xo := ⟨_, List.getElem?_eq_getElem (by rw [HX.out]; omega)⟩
          have HXO := Lib.hid hxo
          obtain ⟨g5, c5, e5, _⟩ := own_blk (M4.out.row 0 rfl) (by rw [HX.out]; omega)
          injection e5 with e5 e6 e7
          subst e5
          have HCL2 := Lib.hid (fun w' hx => HCL.out x (some ⟨g5, 0, none⟩) cap5 w' hx (fun h => by cases h))
          clear e6 e7 hp2 hel hex hxo
          go_wp2_with fail
          refine (HCD.out _ M5.out.held).mono ?_
          rintro e w6 ⟨v6, rfl, ho6, h6⟩
          have M6 := Lib.hid (M5.out.own h6 ho6)
          obtain ⟨A6, cap6, rfl, _⟩ := ho6.shape
          clear ho6
          rw [HLL.out] at M6 ⊢
          go_wp2_with fail
          refine (SlcDm.delete_any demC_len demC_one w.heap.size _ L k (k + 1) _ (M6.out.row 3 rfl) (by omega) (by rw [HLL.out]; omega) (by rw [HLL.out]; omega)).mono ?_
          intro e w7 hgot
          rw [erase_eq] at hgot
          obtain ⟨A7, cap7, rfl, hc7, hM7⟩ := Mem.got M6.out 3 rfl hgot
          have M7 := Lib.hid hM7
          rw [HEL.out.1] at M7 hc7 ⊢
          clear hgot hM7
          go_wp2_with fail
          refine (HCL2.out _ (Own.reads inC_len (M7.out.row 0 rfl)).1).mono ?_
          rintro e w8 ⟨v8, rfl, ho8, h8⟩
          have M8 := Lib.hid (M7.out.own h8 ho8)
          obtain ⟨A8, cap8, rfl, _⟩ := ho8.shape
          clear ho8
          rw [HX.out] at M8 ⊢
          go_wp2_with fail
          refine (SlcIn.delete_any inC_len inC_one w.heap.size _ x k (k + 1) _ (M8.out.row 4 rfl) (by omega) (by rw [HX.out]; omega) (by rw [HX.out]; omega)).mono ?_
          intro e w9 hgot
          rw [erase_eq] at hgot
          obtain ⟨A9, cap9, rfl, hc9, hM9⟩ := Mem.got M8.out 4 rfl hgot
          have M9 := Lib.hid hM9
          rw [HEL.out.2] at M9 hc9 ⊢
          clear hgot hM9
          obtain ⟨⟨z0, z1, z2, z3⟩, _, zlt⟩ := M9.out.box4 2 rfl
          go_wp2_with fail
          have M10 := Lib.hid (M9.out.alloc #[.int .i64 oh] 3)
          refine (HCH.out (L.eraseIdx k) (x.eraseIdx k) [oh] _ _ _ _ _ _ _ d _ M10.out.held (Own.reads demC_len (M10.out.row 3 rfl)).1 (Own.reads inC_len (M10.out.row 4 rfl)).1 (sl_one (by simp) oh)).mono ?_
          rw [HCP.out]
          rintro e w11 ⟨rfl, h11⟩
          have M11 := Lib.hid (M10.out.keep h11)
          clear z0 z1 z2 z3 h11
          cases ok
          · have HE : Hid (R = none) := show _ = _ by rw [HP.out]; exact evTo_none (k := k + 1) (by rw [HNX.out]; rfl) n3 (by omega)
            go_wp2
            go_ret3
            exact EvTo.no HE.out M11.out.held
          · obtain ⟨y0, yf, ylt⟩ := slot1 M11.out 0 rfl HXO.out
            have M12 := Lib.hid (put1 M11.out 0 rfl HXO.out to)
            obtain ⟨A13, cap13, rfl, _⟩ := (M12.out.row 1 rfl).shape
            obtain ⟨ln, hln⟩ : ∃ ln, ms.length = ln := ⟨_, rfl⟩
            rw [hln] at M12 hms ⊢
            have HLN := Lib.hid hln
            clear hln
            go_wp2_with (at_builtin; refine Mem.wp_app (M12.out.skip _) 1 rfl rfl _ _ _ rfl _ 24 Try.underlying33 info_mv rfl (by decide) mvC_len mvC_one ⟨k, oh, to⟩ ⟨w11.heap.size, 0, none⟩ 1 rfl rfl (cells_new _ (by simp) _ _) ln HLN.out (by omega) (by decide) ?_; intro g14 cp14 w14 M14; have M15 := Lib.hid M14; clear M14)
            go_roundw
            case rel => exact ⟨k + 1, ms ++ [(⟨(k : Int), oh, to⟩ : Mv)], x.set k to, by go_num, by omega, by rw [List.length_set]; exact HX.out, by rw [HNX.out]; rfl, by rw [List.length_append, HLN.out]; simp; omega, M15.out.take 2⟩
            case measure => (simp [intOf]) <;> omega
        · have hb : (oh != host) = true := by simp [he]
          rw [if_neg he] at HNX
          clear he
          go_wp2
          go_roundw
          case rel => exact ⟨k + 1, ms, x, by go_num, by omega, HX.out, HNX.out, by omega, M5.out.take 2⟩
          case measure => (simp [intOf]) <;> omega
      · obtain rfl : k = n3 := by omega
        rw [HEV.out] at HP
        obtain ⟨A13, cap13, rfl, _⟩ := (M4.out.row 1 rfl).shape
        go_wp2
        go_ret3
        rw [HP.out]
        exact ⟨_, _, _, _, _, _, rfl, (Own.reads mvC_len (M4.out.row 1 rfl)).1, (Own.reads inC_len (M4.out.row 0 rfl)).1, M4.out.held⟩
end Ba
end Go.Proofs.Ytmmjofdienoobaa
