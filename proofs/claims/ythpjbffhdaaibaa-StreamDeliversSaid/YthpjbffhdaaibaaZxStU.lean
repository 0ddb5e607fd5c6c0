/-
  Chapter 24: StreamOrders: the walk.
-/
import Derived.Test.YthpjbffhdaaibaaZxStT
set_option linter.unusedVariables false
set_option linter.unusedSimpArgs false
set_option maxRecDepth 100000
namespace Go.Proofs.Ythpjbffhdaaibaa
open Go.RowKit Go.BigFrame Go.Sort Go.Lib
namespace Mem
variable {W w : World} {H : List Ck} {α : Type} {e : TypeId} {s : Nat} {f : α → List Value}
/-- Append of a list, wherever it lies; it tells what grew. -/
theorem catC_run (h : Mem W w H) (i : Nat) {A0 : Option Addr} {n cap0 : Nat} {L : List α} (hi : H[i]? = some (.row e s f W.heap.size (.slice A0 n cap0) L)) {P : Program} (ty t : TypeId) (z : Value) (bytes : Nat) (ht : P.underlying t = some (.slice e)) (hinfo : (P.info? e).map (fun i => (i.zero, i.size, i.bytes)) = some (some z, s, bytes))
    (hzs : z.cells.size = s) (hs0 : 0 < s) (hf : ∀ x, (f x).length = s) (hf1 : ∀ x, ∀ u ∈ f x, u.oneCell' = true) (M : List α) (A : Option Addr) (m c : Nat) (hsl : Sl s f w A m M) (hn : L.length = n) (hb : (n + m) * bytes ≤ 140737488355328) (hb1 : 1 ≤ bytes) :
    ∃ A' cap' w', (Builtin.append_ #[t, t] ty #[.slice A0 n cap0, .slice A m c]).run P w = .ok (.slice A' (n + m) cap') w' ∧ Mem W w' (H.set i (.row e s f W.heap.size (.slice A' (n + m) cap') (L ++ M))) ∧ (∀ T B, e ≠ T → B ≤ W.heap.size → Chg T B w w' (Value.slice A0 n cap0).ownBlock) := by
  by_cases hm : m = 0
  · subst hm
    obtain ⟨i0, hi0, hz0, hz1, hz2⟩ := info_parts hinfo
    have hM : M = [] := List.eq_nil_of_length_eq_zero hsl.1
    subst hM
    have hsrc : Src P i0.size t (.slice A 0 c) 0 [] w := by
      cases A with
      | none => exact Src.ofNil w ht c
      | some ad => exact Src.ofSlice w ht ad 0 c [] (by simp) (by simp) (by simp)
    refine ⟨A0, cap0, w, run_append_nothing w t t ty e i0 ht hi0 A0 n cap0 (Own.cap (h.row i hi)) _ hsrc, ?_, fun T B hT hB => Chg.own (h.row i hi) hT hB (Lgc.grown_refl w _)⟩
    rw [List.append_nil]
    obtain ⟨li, hli⟩ := List.getElem?_eq_some_iff.1 hi
    have : H.set i (.row e s f W.heap.size (.slice A0 (n + 0) cap0) L) = H := by
      rw [Nat.add_zero, ← hli]; exact List.set_getElem_self li
    rw [this]; exact h
  · rcases hsl.2 with h0 | ⟨b, off, rfl, hlt, hc⟩
    · exact absurd h0 hm
    · subst hn
      obtain ⟨i0, hi0, hz0, hz1, hz2⟩ := info_parts hinfo
      have hlen : L.length + m ≤ 140737488355328 := Nat.le_trans (Nat.le_mul_of_pos_right _ hb1) hb
      have hfl : (M.flatMap f).length = m * s := by rw [flat_len hf, hsl.1]
      obtain ⟨g, cap, w', hr, h2, h3, h4, h5⟩ := run_append_lies (P := P) w t ty W.heap.size e i0 z s bytes ht hi0 hz0 hz1 hz2 hzs hs0 _ L.length (L.flatMap f) (h.row i hi) ⟨b, off, none⟩ m c (M.flatMap f) hfl (Sl.flat hf hs0 hsl) (fun u hu => by
        rw [List.mem_flatMap] at hu
        obtain ⟨y, _, hy⟩ := hu
        exact hf1 y u hy) (by omega) (by unfold maxLen; omega) hb h.le w.heap.size rfl
      refine ⟨_, cap, w', hr, h.app i hi h3 ?_ (fun b hb' => ?_), fun T B hT hB => Chg.own (h.row i hi) hT hB h3⟩
      · unfold Own
        rw [List.flatMap_append, List.length_append, hsl.1]
        exact h2
      · simp only [Value.ownBlock] at hb'
        injection hb' with hb'
        subst hb'
        exact h4.imp id (fun h => by omega)
theorem step_catC (h : Mem W w H) (i : Nat) {A0 : Option Addr} {n cap0 : Nat} {L : List α} (hi : H[i]? = some (.row e s f W.heap.size (.slice A0 n cap0) L)) {P : Program} {ops : Array Oper} {o : Oper} {a : Act} {K : Act → World → Prop} {Q : Exit → Act → World → Prop} {E : Prop} (hgd : o.guard = none) (sl x : Operand) (t : TypeId)
    (ho : o.op = .call { callee := .builtin .append, args := #[sl, x], argTypes := #[t, t] }) (z : Value) (bytes : Nat) (ht : P.underlying t = some (.slice e)) (hinfo : (P.info? e).map (fun i => (i.zero, i.size, i.bytes)) = some (some z, s, bytes))
    (hzs : z.cells.size = s) (hs0 : 0 < s) (hf : ∀ x, (f x).length = s) (hf1 : ∀ x, ∀ u ∈ f x, u.oneCell' = true) (M : List α) (A : Option Addr) (m c : Nat)
    (hs : a.eval sl = .slice A0 n cap0) (hx : a.eval x = .slice A m c) (hsl : Sl s f w A m M) (hn : L.length = n) (hb : (n + m) * bytes ≤ 140737488355328) (hb1 : 1 ≤ bytes)
    (k : ∀ A' cap' w', Mem W w' (H.set i (.row e s f W.heap.size (.slice A' (n + m) cap') (L ++ M))) → (∀ T B, e ≠ T → B ≤ W.heap.size → Chg T B w w' (Value.slice A0 n cap0).ownBlock) → K (a.put o.dst (.slice A' (n + m) cap')) w') :
    if Region.wanted o (yielded ops a.tmps) = true then Oper.wp P o a w K Q else E := by
  have hw : Region.wanted o (yielded ops a.tmps) = true := by simp [Region.wanted, hgd]
  rw [if_pos hw]
  obtain ⟨A', cap', w', hr, hM, hA⟩ := h.catC_run i hi (P := P) o.type t z bytes ht hinfo hzs hs0 hf hf1 M A m c hsl hn hb hb1
  unfold Oper.wp execOp
  simp only [ho, resolve, invoke, builtin, Sem.run_bind, Sem.run_pure, Result.andThen_ok, List.map_toArray, List.map_cons, List.map_nil, hs, hx, hr]
  exact k A' cap' w' hM hA
end Mem
namespace St
open Enc Uv Lg Lgc Strs
theorem dataP_len {n : Nat} {g : Seg} (hn : n < 18446744073709551616) (hg : SegIn g) : (dataP n g).length ≤ 100000 := by
  have h := body_len g hg
  have h1 := put_len n hn
  have h2 := put_len ((body g).1.length + 1) (by omega)
  unfold dataP packed
  simp only [List.length_append, be8_len, List.length_cons]
  omega
theorem packs_nth {at_ : Nat} {G : List Seg} (h : Ch at_ G) {n : Nat} (hn : n ≤ G.length) (h8 : n ≤ 8) {j : Nat} (hj : j < n) : (strs (packets (sndAt at_ G 0 n)))[j]? = some ⟨(dataP (j + 1) (G[j]'(by omega))).toArray⟩ := by
  rw [packets_at h (Nat.zero_le _) hn (by omega) (by omega)]
  unfold strs
  rw [List.getElem?_map, List.getElem?_map, List.getElem?_range (by omega)]
  simp only [Option.map_some, Nat.zero_add]
  rw [List.getD_eq_getElem?_getD, List.getElem?_eq_getElem (by omega)]; rfl
theorem packs_cnt {at_ : Nat} {G : List Seg} (h : Ch at_ G) {n : Nat} (hn : n ≤ G.length) (h8 : n ≤ 8) : (strs (packets (sndAt at_ G 0 n))).length = n := by
  rw [packets_at h (Nat.zero_le _) hn (by omega) (by omega)]
  unfold strs
  rw [List.length_map, List.length_map, List.length_range]; rfl
set_option maxHeartbeats 2000000 in
theorem orders (o0 : Option Addr) (len0 cap0 : Nat) (z0 : List Int) (a1 : Int) (o2 : Option Addr) (len2 cap2 : Nat) (z2 : List Int) (w1 : (Lit.int .u64 a1).wf = true) (W : World) (w0 : Rw.IsRow .i64 W o0 len0 cap0 z0) (w2 : Rw.IsRow .i64 W o2 len2 cap2 z2) :
    Calls Try.prog 4 #[.slice o0 len0 cap0, .int .u64 a1, .slice o2 len2 cap2] W fun e w' => e = .returned (.bool true) ∧ Below W.heap.size W w' := by
  have hat := Rw.bd_u64 w1
  obtain ⟨at_, rfl⟩ := Int.eq_ofNat_of_zero_le hat.1
  obtain ⟨L, hL, hmx, hLb⟩ := nums_in w0
  obtain ⟨L2, hL2, hmx2, hLb2⟩ := nums_in w2
  have HAW := Lib.hid awake_any
  by_cases t0 : (len0 : Int) < 1
  · clear hL hLb hL2 hLb2 w0 w1 w2
    go_enter Try.func4, Try.ntmps4
    go_wp2_with (go_at_call 8; refine (HAW.out _).mono ?_; rintro e w1 ⟨rfl, h1⟩)
    go_ret
    exact ⟨rfl, h1⟩
  have t0d : decide ((len0 : Int) < 1) = false := decide_eq_false t0
  by_cases t1 : (8 : Int) < len0
  · clear hL hLb hL2 hLb2 w0 w1 w2
    go_enter Try.func4, Try.ntmps4
    go_wp2_with (go_at_call 8; refine (HAW.out _).mono ?_; rintro e w1 ⟨rfl, h1⟩)
    go_ret
    exact ⟨rfl, h1⟩
  have t1d : decide ((8 : Int) < len0) = false := decide_eq_false t1
  by_cases t2 : (1099511627776 : Int) < at_
  · clear hL hLb hL2 hLb2 w0 w1 w2
    go_enter Try.func4, Try.ntmps4
    go_wp2_with (go_at_call 8; refine (HAW.out _).mono ?_; rintro e w1 ⟨rfl, h1⟩)
    go_ret
    exact ⟨rfl, h1⟩
  have t2d : decide ((1099511627776 : Int) < at_) = false := decide_eq_false t2
  by_cases t3 : (40 : Int) < len2
  · clear hL hLb hL2 hLb2 w0 w1 w2
    go_enter Try.func4, Try.ntmps4
    go_wp2_with (go_at_call 8; refine (HAW.out _).mono ?_; rintro e w1 ⟨rfl, h1⟩)
    go_ret
    exact ⟨rfl, h1⟩
  have t3d : decide ((40 : Int) < len2) = false := decide_eq_false t3
  have HSG := Lib.hid (segments_any o0 len0 cap0 L at_ 0 W (Nat.zero_le _) hL hLb (by omega) (by omega))
  have HO := Lib.hid hL2
  have HOB := Lib.hid hLb2
  clear hL hLb hL2 hLb2 w0 w1 w2
  go_enter Try.func4, Try.ntmps4
  go_wp2_with fail
  refine HSG.out.mono ?_
  rintro e w1 ⟨A, cap, R, rfl, hRl, hch, oR, sR, h1⟩
  have M1 := Lib.hid ((Mem.start W).own h1 oR)
  have HRL : Is R.length len0 := ⟨hRl⟩
  have hgl : (gs R).length = len0 := by rw [gs_len]; exact hRl
  have HGL : Is (gs R).length len0 := ⟨hgl⟩
  have hs2 := started_any A len0 cap R at_ 0 w1 (Nat.zero_le _) (Own.reads segC_len oR).1 sR hch (by omega) (by omega)
  unfold StTo at hs2
  rw [hgl, show min len0 8 = len0 by omega, List.take_of_length_le (by omega)] at hs2
  have HST := Lib.hid hs2
  have HCH := Lib.hid hch
  have S1 := Lib.hid sR
  clear hRl hch oR sR h1 HSG hs2 hgl
  go_wp2_with fail
  refine HST.out.mono ?_
  rintro e w2 ⟨AQ, nQ, cQ, rfl, ⟨RQ, hRQ, oQ, sQ⟩, h2⟩
  have hQl : RQ.length = len0 := by have := congrArg List.length hRQ; rw [gs_len, HGL.out] at this; exact this
  obtain rfl : nQ = len0 := by rw [← hQl]; exact (Own.reads segC_len oQ).2.1
  have HRQ := Lib.hid hRQ
  obtain ⟨pn, hpn⟩ : ∃ pn, pos at_ (gs R) nQ = pn := ⟨_, rfl⟩
  rw [hpn]
  have M2 := Lib.hid (((M1.out.own h2 oQ).alloc #[.int .u64 1, .int .u64 (pn : Int), .int .u64 at_, .slice AQ nQ cQ] 38).alloc' (b := w2.heap.size + 1) (by simp) #[.int .u64 1, .int .u64 at_, .slice none 0 0] 41)
  have hA2 := ((Held.refl w2).alloc (.cells #[.int .u64 1, .int .u64 (pn : Int), .int .u64 at_, .slice AQ nQ cQ] 38)).alloc (.cells #[.int .u64 1, .int .u64 at_, .slice none 0 0] 41)
  have S2 := Lib.hid ((S1.out.held h2).held hA2)
  have Q2 := Lib.hid (sQ.held hA2)
  have hpk := packets_any 1 pn at_ AQ nQ cQ RQ 0 _ ((Own.reads segC_len (M2.out.row 1 rfl)).1) Q2.out (by omega)
  have hsnd : sndAt at_ (gs R) 0 nQ = ⟨1, pn, at_, gs RQ⟩ := by rw [sndAt0, hpn, HRQ.out, List.take_of_length_le (by rw [HGL.out]; exact Nat.le_refl _)]
  rw [← hsnd] at hpk
  have HPK := Lib.hid hpk
  have HPN := Lib.hid hpn
  have HSND := Lib.hid hsnd
  obtain ⟨⟨c0, c1, c2, c3⟩, _, cl⟩ := M2.out.box4 2 rfl
  clear hQl hRQ oQ sQ h2 hA2 hpk hsnd HST M1 S1 hpn
  go_wp2_with fail
  refine HPK.out.mono ?_
  rintro e w3 ⟨AP, nP, cP, rfl, oP, h3⟩
  have hPl := packs_cnt HCH.out (n := nQ) (by rw [HGL.out]; exact Nat.le_refl _) (by omega)
  obtain rfl : nP = nQ := by rw [← hPl]; exact (Own.reads stC_len oP).2.1
  have M3 := Lib.hid ((((M2.out.own h3 oP).nilRow (e := 87) (s := 4) (f := erC))).nilRow (e := 32) (s := 3) (f := segC))
  have S3 := Lib.hid (S2.out.held h3)
  have Q3 := Lib.hid (Q2.out.held h3)
  clear oP h3 HPK M2 S2 Q2 c0 c1 c2 c3 cl hPl
  obtain ⟨PS, hPS⟩ : ∃ PS, strs (packets (sndAt at_ (gs R) 0 nP)) = PS := ⟨_, rfl⟩
  have HPC : Is PS.length nP := ⟨by rw [← hPS]; exact packs_cnt HCH.out (by rw [HGL.out]; exact Nat.le_refl _) (by omega)⟩
  have HPS : Hid (∀ j (h : j < nP), PS[j]? = some ⟨(dataP (j + 1) ((gs R)[j]'(by rw [HGL.out]; exact h))).toArray⟩) := fun j h => by rw [← hPS]; exact packs_nth HCH.out (by rw [HGL.out]; exact Nat.le_refl _) (by omega) h
  rw [hPS] at M3
  clear hPS
  go_wp2
  go_loopw [12, 13] (fun v i wr => ∃ (q K nE cE k1 pK : Nat) (AE : Option Addr) (RE : List ErR) (RD : List SR), i = .int .i64 (q : Int) ∧ q ≤ len2 + nP ∧ K ≤ nP ∧ k1 = K + 1 ∧ pK = pos at_ (gs R) K ∧ EI at_ (gs R) K nP (ers RE) ∧ gs RD = (gs R).take K ∧ (∀ j, j + len2 < q → j < K ∨ ∃ x ∈ ers RE, x.s = j + 1) ∧ Mem W wr [.row 32 3 segC W.heap.size (.slice A nP cap) R, .row 32 3 segC W.heap.size (.slice AQ nP cQ) RQ, .box w2.heap.size #[.int .u64 1, .int .u64 (pn : Int), .int .u64 at_, .slice AQ nP cQ] 38, .box (w2.heap.size + 1) #[.int .u64 (k1 : Int), .int .u64 (pK : Int), .slice AE nE cE] 41, .row 9 1 stC W.heap.size (.slice AP nP cP) PS, .row 87 4 erC W.heap.size (.slice AE nE cE) RE, .row 32 3 segC W.heap.size v RD] ∧ Sgs 0 wr R ∧ Sgs 0 wr RQ ∧ Ers 0 wr RE ∧ Sgs 0 wr RD) (fun _ i _ => len2 + nP - (RowKit.intOf i).toNat)
  case atStart => exact ⟨0, 0, 0, 0, 1, at_, none, [], [], rfl, Nat.zero_le _, Nat.zero_le _, rfl, rfl, EI.nil _ _ _ _, rfl, fun j hj => by omega, M3.out, S3.out, Q3.out, Ers.nil _ _, Sgs.nil _ _⟩
  case round =>
    obtain ⟨q, K, nE, cE, k1, pK, AE, RE, RD, rfl, hq, hK, hk1, hpK, hEI, hgD, htk, hM, hSR, hSQ, hSE, hSD⟩ := hrel
    obtain ⟨AD, cD, rfl, hcD, _⟩ := (hM.row 6 rfl).shape
    obtain ⟨nD, hnD⟩ : ∃ nD, RD.length = nD := ⟨_, rfl⟩
    have HND : Is RD.length nD := ⟨hnD⟩
    have hDK : nD = K := by
      have := congrArg List.length hgD
      rw [gs_len, List.length_take, HGL.out] at this
      omega
    have hRE : RE.length = nE := by have := (Own.reads erC_len (hM.row 5 rfl)).2.1; omega
    have hnE : nE ≤ 1000000 := by
      have hl := asc_len Er.s (ers RE) (K + 1) nP hEI.asc fun x hx => by obtain ⟨i, hi, h1, h2, rfl⟩ := hEI.mem x hx; exact ⟨by simp only; omega, by simp only; omega⟩
      rw [ers_len, hRE] at hl
      omega
    have HKN : Hid (K ≤ nP) := hK
    have HK1 : Is k1 (K + 1) := ⟨hk1⟩
    have HPK : Is pK (pos at_ (gs R) K) := ⟨hpK⟩
    have HEI := Lib.hid hEI
    have HGD := Lib.hid hgD
    have HTK := Lib.hid htk
    rw [hnD] at hM hcD ⊢
    have M := Lib.hid hM
    have SR := Lib.hid hSR
    have SQ := Lib.hid hSQ
    have SE := Lib.hid hSE
    have SD := Lib.hid hSD
    have HDK : Hid (nD = K) := hDK
    have hnD8 : nD ≤ 8 := by omega
    clear hk1 hpK hEI hgD htk hM hSR hSQ hSE hSD hnD hDK hRE M3 S3 Q3 hK
    obtain ⟨⟨r0, r1, r2⟩, ⟨rf0, rf1, rf2⟩, rl⟩ := M.out.box3 3 rfl
    by_cases hlt : q < len2 + nP
    · have zl : (q : Int) < (len2 : Int) + nP := by omega
      by_cases hq2 : q < len2
      · obtain ⟨b, off, z, rfl, hb, hz, hc⟩ := in_at HO.out M.out.held (k := q) hq2
        have hzb := HOB.out z (List.mem_of_getElem? hz)
        have z2 : (q : Int) < len2 := by omega
        have z3 : (0 : Int) ≤ q := by omega
        have zk : (q : Int) - len2 < 0 := by omega
        have HR := Lib.hid fun w => Mk.round_any z nP hzb.1 hzb.2 (by omega) (by omega) w
        have hrb := Mk.round_bd z nP (by omega)
        generalize Mk.round z nP = j at HR hrb
        obtain ⟨j, rfl⟩ := Int.eq_ofNat_of_zero_le hrb.1
        have hjn : j < nP := by omega
        have HJQ : Hid (∀ i, i + len2 = q → i = j) := fun i hi => by omega
        clear hz hzb hrb hb
        go_wp2_with fail
        refine (HR.out _).mono ?_
        rintro e w5 ⟨rfl, rfl⟩
        clear hc HR
        have hjg : j < (gs R).length := by rw [HGL.out]; exact hjn
        obtain ⟨K', E', hK1, hK2, hEI', htk, hE1, hE2, _⟩ := take_at HCH.out HEI.out (by omega) (by rw [HGL.out]; exact Nat.le_refl _) HKN.out hjn
        obtain ⟨gP, xs, rfl, hgeP, hglP, hxP, hxcP⟩ := M.out.slot 4 rfl stC_len (by decide) (k := j) (by rw [HPC.out]; exact hjn)
        rw [HPS.out j hjn] at hxP
        injection hxP with hxP
        subst hxP
        have y0 := (hxcP 0 (by decide)).2 _ rfl
        simp only [Nat.mul_one, Nat.add_zero] at y0
        have hdl := dataP_len (n := j + 1) (g := (gs R)[j]) (by omega) (HCH.out.inn j hjg)
        obtain ⟨dp, hdp⟩ : ∃ dp, dataP (j + 1) ((gs R)[j]) = dp := ⟨_, rfl⟩
        rw [hdp] at htk y0 hdl
        obtain ⟨k2, hk2⟩ : ∃ k2, K' + 1 = k2 := ⟨_, rfl⟩
        obtain ⟨p2, hp2⟩ : ∃ p2, pos at_ (gs R) K' = p2 := ⟨_, rfl⟩
        have hr0 : rcvAt at_ (gs R) K (ers RE) = ⟨k1, pK, ers RE⟩ := by unfold rcvAt; rw [HK1.out, HPK.out]
        rw [hr0] at htk
        have hr1 : rcvAt at_ (gs R) K' E' = ⟨k2, p2, E'⟩ := by unfold rcvAt; rw [hk2, hp2]
        rw [hr1] at htk
        have ht := fun (w' : World) (k : Held wr w') => take_any k1 pK AE nE cE RE ⟨dp.toArray⟩ 0 w' (Nat.zero_le _) ((Own.reads erC_len (M.out.row 5 rfl)).1.held k) (SE.out.held k) hnE (by rw [ba_size]; omega)
        rw [show (⟨dp.toArray⟩ : ByteArray).data.toList = dp by simp, htk] at ht
        have HT := Lib.hid ht
        have HT2 : Hid (∀ i, i + len2 < q + 1 → i < K' ∨ ∃ x ∈ E', x.s = i + 1) := fun i hi => by
          by_cases e : i + len2 < q
          · rcases HTK.out i e with h | ⟨x, hx, hxs⟩
            · exact .inl (by omega)
            · rcases hE1 x hx with h | h
              · exact .inl (by omega)
              · exact .inr ⟨x, h, hxs⟩
          · have : i = j := HJQ.out i (by omega)
            subst this
            exact hE2
        have HEI2 := Lib.hid hEI'
        have HK2 : Is k2 (K' + 1) := ⟨hk2.symm⟩
        have HP2 : Is p2 (pos at_ (gs R) K') := ⟨hp2.symm⟩
        have HKK : Hid (K ≤ K' ∧ K' ≤ nP) := ⟨hK1, hK2⟩
        obtain ⟨D', hD'⟩ : ∃ D', ((gs R).drop K).take (K' - K) = D' := ⟨_, rfl⟩
        rw [hD'] at HT
        have HDD : Hid (((gs R).drop K).take (K' - K) = D') := hD'
        have HZ := Lib.hid ((Held.refl wr).alloc (.cells #[.int .u64 0, .int .u64 0, .slice none 0 0] 41))
        have MZ := Lib.hid (M.out.alloc #[.int .u64 0, .int .u64 0, .slice none 0 0] 41)
        have hjz : (0 : Int) ≤ j := by omega
        have hjn2 : (j : Int) < nP := by omega
        clear hE1 hE2 hEI' htk hdp hr0 hr1 ht hk2 hp2 hK1 hK2 hD' hgeP hxcP
        go_wp2
        go_region_law (first
          | (go_simp; go_at_call 16; refine (HT.out _ (Held.refl wr).drew).mono ?_; rintro e w6 ⟨A4, n4, c4, DA, dn, dc, R4, D4, rfl, hR4, hD4, hM6, hE6, hD6⟩; dsimp only at hR4 hD4 ⊢; have HR4 := Lib.hid hR4; have HD4 := Lib.hid hD4; have MB := Lib.hid ((M.out.drew).two hM6); have hB6 := Lib.hid ((Held.refl wr).drew.step hM6.held); have EB := Lib.hid hE6; have DB := Lib.hid hD6; clear hR4 hD4 hM6 hE6 hD6)
          | (go_simp; go_at_call 16; refine (HT.out _ HZ.out.drew).mono ?_; rintro e w6 ⟨A4, n4, c4, DA, dn, dc, R4, D4, rfl, hR4, hD4, hM6, hE6, hD6⟩; dsimp only at hR4 hD4 ⊢; have HR4 := Lib.hid hR4; have HD4 := Lib.hid hD4; have MA := Lib.hid ((MZ.out.drew).two hM6); have hA6 := Lib.hid (HZ.out.drew.step hM6.held); have EA := Lib.hid hE6; have DA' := Lib.hid hD6; obtain ⟨⟨v0, v1, v2⟩, ⟨vf0, vf1, vf2⟩, vl⟩ := MA.out.box3 7 rfl; clear hR4 hD4 hM6 hE6 hD6))
        all_goals
          first
          | (have MX := Lib.hid (MA.out.put3 7 rfl (.int .u64 (k2 : Int)) (.int .u64 (p2 : Int)) (.slice A4 n4 c4)); have bk := Blk.of MA.out 7 rfl (by decide) (Nat.zero_le _); have SRx := Lib.hid ((SR.out.held hA6.out).put3 bk (.int .u64 (k2 : Int)) (.int .u64 (p2 : Int)) (.slice A4 n4 c4)); have SQx := Lib.hid ((SQ.out.held hA6.out).put3 bk (.int .u64 (k2 : Int)) (.int .u64 (p2 : Int)) (.slice A4 n4 c4)); have SDx := Lib.hid ((SD.out.held hA6.out).put3 bk (.int .u64 (k2 : Int)) (.int .u64 (p2 : Int)) (.slice A4 n4 c4)); have SEx := Lib.hid (EA.out.put3 bk (.int .u64 (k2 : Int)) (.int .u64 (p2 : Int)) (.slice A4 n4 c4)); have SNx := Lib.hid (DA'.out.put3 bk (.int .u64 (k2 : Int)) (.int .u64 (p2 : Int)) (.slice A4 n4 c4)); clear v0 v1 v2 vf0 vf1 vf2 vl MA hA6 EA DA' bk)
          | (have MX := Lib.hid ((MB.out.alloc #[.int .u64 (k2 : Int), .int .u64 (p2 : Int), .slice A4 n4 c4] 41).sel [0, 1, 2, 3, 4, 5, 6, 9, 7, 8] (by decide)); have hN := (Held.refl w6).alloc (.cells #[.int .u64 (k2 : Int), .int .u64 (p2 : Int), .slice A4 n4 c4] 41); have SRx := Lib.hid ((SR.out.held hB6.out).held hN); have SQx := Lib.hid ((SQ.out.held hB6.out).held hN); have SDx := Lib.hid ((SD.out.held hB6.out).held hN); have SEx := Lib.hid (EB.out.held hN); have SNx := Lib.hid (DB.out.held hN); clear MB hB6 EB DB hN)
          obtain ⟨⟨v0, v1, v2⟩, _, vl⟩ := MX.out.box3 7 rfl
          obtain ⟨⟨r0, r1, r2⟩, ⟨rf0, rf1, rf2⟩, rl⟩ := MX.out.box3 3 rfl
          have hn37 := MX.out.ne 3 7 rfl rfl (by decide)
          have hn73 := MX.out.ne 7 3 rfl rfl (by decide)
          have hdn : dn ≤ 8 := by
            have h1 := (Own.reads segC_len (MX.out.row 9 rfl)).2.1
            have h2 := congrArg List.length HD4.out
            rw [gs_len, ← HDD.out, List.length_take] at h2
            have h3 := HKK.out
            omega
          have bk := Blk.of MX.out 3 rfl (by decide) (Nat.zero_le _)
          have MP := Lib.hid (MX.out.put3 3 rfl (.int .u64 (k2 : Int)) (.int .u64 (p2 : Int)) (.slice A4 n4 c4))
          have BK := Lib.hid bk
          have HSL := Lib.hid (Own.reads segC_len (MX.out.row 9 rfl)).1
          have HSP := Lib.hid (Own.reads segC_len (MP.out.row 9 rfl)).1
          clear bk HZ MZ M SR SQ SE SD HT
          go_wp2
          go_region_law (first
            | (refine Mem.step_catC MX.out.drew 6 rfl (by rfl) _ _ _ (by rfl) _ 40 Try.underlying25 info_seg (by rfl) (by decide) segC_len segC_one D4 DA dn dc (by rfl) (by rfl) (HSL.out.held (Held.refl _).drew) HND.out (by omega) (by decide) ?_; intro A8 c8 w8 M8' k8; have M8a := Lib.hid M8'; have KA := Lib.hid (k8 106 0 (by decide) (Nat.zero_le _)); obtain ⟨⟨e0, e1, e2⟩, _, el⟩ := M8'.box3 7 rfl; obtain ⟨⟨t0', t1', t2'⟩, ⟨tf0, tf1, tf2⟩, tl⟩ := M8'.box3 3 rfl; clear M8' k8)
            | (refine Mem.step_catC MP.out.drew 6 rfl (by rfl) _ _ _ (by rfl) _ 40 Try.underlying25 info_seg (by rfl) (by decide) segC_len segC_one D4 DA dn dc (by rfl) (by rfl) (HSP.out.held (Held.refl _).drew) HND.out (by omega) (by decide) ?_; intro A8 c8 w8 M8' k8; have M8b := Lib.hid M8'; have KB := Lib.hid (k8 106 0 (by decide) (Nat.zero_le _)); obtain ⟨⟨e0, e1, e2⟩, _, el⟩ := M8'.box3 7 rfl; clear M8' k8))
          all_goals
            first
            | (have MF := Lib.hid ((M8a.out.put3 3 rfl (.int .u64 (k2 : Int)) (.int .u64 (p2 : Int)) (.slice A4 n4 c4)).sel [0, 1, 2, 3, 4, 8, 6] (by decide)); have bk := Blk.of M8a.out 3 rfl (by decide) (Nat.zero_le _); have SRf := Lib.hid (((SRx.out.held (Held.refl _).drew).chg KA.out).put3 bk (.int .u64 (k2 : Int)) (.int .u64 (p2 : Int)) (.slice A4 n4 c4)); have SQf := Lib.hid (((SQx.out.held (Held.refl _).drew).chg KA.out).put3 bk (.int .u64 (k2 : Int)) (.int .u64 (p2 : Int)) (.slice A4 n4 c4)); have SEf := Lib.hid (((SEx.out.held (Held.refl _).drew).chg KA.out).put3 bk (.int .u64 (k2 : Int)) (.int .u64 (p2 : Int)) (.slice A4 n4 c4)); have SDf := Lib.hid (((SDx.out.held (Held.refl _).drew).chg KA.out).put3 bk (.int .u64 (k2 : Int)) (.int .u64 (p2 : Int)) (.slice A4 n4 c4)); have SNf := Lib.hid (((SNx.out.held (Held.refl _).drew).chg KA.out).put3 bk (.int .u64 (k2 : Int)) (.int .u64 (p2 : Int)) (.slice A4 n4 c4)); clear bk t0' t1' t2' tf0 tf1 tf2 tl M8a KA)
            | (have MF := Lib.hid (M8b.out.sel [0, 1, 2, 3, 4, 8, 6] (by decide)); have SRf := Lib.hid (((SRx.out.put3 BK.out (.int .u64 (k2 : Int)) (.int .u64 (p2 : Int)) (.slice A4 n4 c4)).held (Held.refl _).drew).chg KB.out); have SQf := Lib.hid (((SQx.out.put3 BK.out (.int .u64 (k2 : Int)) (.int .u64 (p2 : Int)) (.slice A4 n4 c4)).held (Held.refl _).drew).chg KB.out); have SEf := Lib.hid (((SEx.out.put3 BK.out (.int .u64 (k2 : Int)) (.int .u64 (p2 : Int)) (.slice A4 n4 c4)).held (Held.refl _).drew).chg KB.out); have SDf := Lib.hid (((SDx.out.put3 BK.out (.int .u64 (k2 : Int)) (.int .u64 (p2 : Int)) (.slice A4 n4 c4)).held (Held.refl _).drew).chg KB.out); have SNf := Lib.hid (((SNx.out.put3 BK.out (.int .u64 (k2 : Int)) (.int .u64 (p2 : Int)) (.slice A4 n4 c4)).held (Held.refl _).drew).chg KB.out); clear M8b KB)
            clear MX MP SRx SQx SEx SDx SNx v0 v1 v2 vl r0 r1 r2 rf0 rf1 rf2 rl e0 e1 e2 el BK HSL HSP
            go_wp2
            go_roundw
            case rel =>
              refine ⟨q + 1, K', n4, c4, k2, p2, A4, R4, RD ++ D4, by go_num, by omega, HKK.out.2, HK2.out, HP2.out, by rw [HR4.out]; exact HEI2.out, ?_, by rw [HR4.out]; exact HT2.out, MF.out, SRf.out, SQf.out, SEf.out, SDf.out.cat SNf.out⟩
              have e1 : gs (RD ++ D4) = gs RD ++ gs D4 := List.map_append
              have e2 : (gs R).take (K + (K' - K)) = (gs R).take K ++ ((gs R).drop K).take (K' - K) := List.take_add
              have e3 : K + (K' - K) = K' := by have := HKK.out; omega
              rw [e1, HGD.out, HD4.out, ← HDD.out, ← e2, e3]
            case measure => (simp [RowKit.intOf]) <;> omega
      · obtain ⟨j, hj⟩ : ∃ j, q = len2 + j := ⟨q - len2, by omega⟩
        have hjn : j < nP := by omega
        have HJQ : Hid (∀ i, i + len2 = q → i = j) := fun i hi => by omega
        have zk : (q : Int) - len2 = (j : Int) := by omega
        have zkn : ¬ (j : Int) < 0 := by omega
        have zq : (q : Int) < len2 + nP := by omega
        have HQJ : Is q (len2 + j) := ⟨hj⟩
        clear hj
        have hjg : j < (gs R).length := by rw [HGL.out]; exact hjn
        obtain ⟨K', E', hK1, hK2, hEI', htk, hE1, hE2, _⟩ := take_at HCH.out HEI.out (by omega) (by rw [HGL.out]; exact Nat.le_refl _) HKN.out hjn
        obtain ⟨gP, xs, rfl, hgeP, hglP, hxP, hxcP⟩ := M.out.slot 4 rfl stC_len (by decide) (k := j) (by rw [HPC.out]; exact hjn)
        rw [HPS.out j hjn] at hxP
        injection hxP with hxP
        subst hxP
        have y0 := (hxcP 0 (by decide)).2 _ rfl
        simp only [Nat.mul_one, Nat.add_zero] at y0
        have hdl := dataP_len (n := j + 1) (g := (gs R)[j]) (by omega) (HCH.out.inn j hjg)
        obtain ⟨dp, hdp⟩ : ∃ dp, dataP (j + 1) ((gs R)[j]) = dp := ⟨_, rfl⟩
        rw [hdp] at htk y0 hdl
        obtain ⟨k2, hk2⟩ : ∃ k2, K' + 1 = k2 := ⟨_, rfl⟩
        obtain ⟨p2, hp2⟩ : ∃ p2, pos at_ (gs R) K' = p2 := ⟨_, rfl⟩
        have hr0 : rcvAt at_ (gs R) K (ers RE) = ⟨k1, pK, ers RE⟩ := by unfold rcvAt; rw [HK1.out, HPK.out]
        rw [hr0] at htk
        have hr1 : rcvAt at_ (gs R) K' E' = ⟨k2, p2, E'⟩ := by unfold rcvAt; rw [hk2, hp2]
        rw [hr1] at htk
        have ht := fun (w' : World) (k : Held wr w') => take_any k1 pK AE nE cE RE ⟨dp.toArray⟩ 0 w' (Nat.zero_le _) ((Own.reads erC_len (M.out.row 5 rfl)).1.held k) (SE.out.held k) hnE (by rw [ba_size]; omega)
        rw [show (⟨dp.toArray⟩ : ByteArray).data.toList = dp by simp, htk] at ht
        have HT := Lib.hid ht
        have HT2 : Hid (∀ i, i + len2 < q + 1 → i < K' ∨ ∃ x ∈ E', x.s = i + 1) := fun i hi => by
          by_cases e : i + len2 < q
          · rcases HTK.out i e with h | ⟨x, hx, hxs⟩
            · exact .inl (by omega)
            · rcases hE1 x hx with h | h
              · exact .inl (by omega)
              · exact .inr ⟨x, h, hxs⟩
          · have : i = j := HJQ.out i (by omega)
            subst this
            exact hE2
        have HEI2 := Lib.hid hEI'
        have HK2 : Is k2 (K' + 1) := ⟨hk2.symm⟩
        have HP2 : Is p2 (pos at_ (gs R) K') := ⟨hp2.symm⟩
        have HKK : Hid (K ≤ K' ∧ K' ≤ nP) := ⟨hK1, hK2⟩
        obtain ⟨D', hD'⟩ : ∃ D', ((gs R).drop K).take (K' - K) = D' := ⟨_, rfl⟩
        rw [hD'] at HT
        have HDD : Hid (((gs R).drop K).take (K' - K) = D') := hD'
        have HZ := Lib.hid ((Held.refl wr).alloc (.cells #[.int .u64 0, .int .u64 0, .slice none 0 0] 41))
        have MZ := Lib.hid (M.out.alloc #[.int .u64 0, .int .u64 0, .slice none 0 0] 41)
        have hjz : (0 : Int) ≤ j := by omega
        have hjn2 : (j : Int) < nP := by omega
        clear hE1 hE2 hEI' htk hdp hr0 hr1 ht hk2 hp2 hK1 hK2 hD' hgeP hxcP
        go_wp2
        go_region_law (first
          | (go_simp; go_at_call 16; refine (HT.out _ (Held.refl wr).drew).mono ?_; rintro e w6 ⟨A4, n4, c4, DA, dn, dc, R4, D4, rfl, hR4, hD4, hM6, hE6, hD6⟩; dsimp only at hR4 hD4 ⊢; have HR4 := Lib.hid hR4; have HD4 := Lib.hid hD4; have MB := Lib.hid ((M.out.drew).two hM6); have hB6 := Lib.hid ((Held.refl wr).drew.step hM6.held); have EB := Lib.hid hE6; have DB := Lib.hid hD6; clear hR4 hD4 hM6 hE6 hD6)
          | (go_simp; go_at_call 16; refine (HT.out _ HZ.out.drew).mono ?_; rintro e w6 ⟨A4, n4, c4, DA, dn, dc, R4, D4, rfl, hR4, hD4, hM6, hE6, hD6⟩; dsimp only at hR4 hD4 ⊢; have HR4 := Lib.hid hR4; have HD4 := Lib.hid hD4; have MA := Lib.hid ((MZ.out.drew).two hM6); have hA6 := Lib.hid (HZ.out.drew.step hM6.held); have EA := Lib.hid hE6; have DA' := Lib.hid hD6; obtain ⟨⟨v0, v1, v2⟩, ⟨vf0, vf1, vf2⟩, vl⟩ := MA.out.box3 7 rfl; clear hR4 hD4 hM6 hE6 hD6))
        all_goals
          first
          | (have MX := Lib.hid (MA.out.put3 7 rfl (.int .u64 (k2 : Int)) (.int .u64 (p2 : Int)) (.slice A4 n4 c4)); have bk := Blk.of MA.out 7 rfl (by decide) (Nat.zero_le _); have SRx := Lib.hid ((SR.out.held hA6.out).put3 bk (.int .u64 (k2 : Int)) (.int .u64 (p2 : Int)) (.slice A4 n4 c4)); have SQx := Lib.hid ((SQ.out.held hA6.out).put3 bk (.int .u64 (k2 : Int)) (.int .u64 (p2 : Int)) (.slice A4 n4 c4)); have SDx := Lib.hid ((SD.out.held hA6.out).put3 bk (.int .u64 (k2 : Int)) (.int .u64 (p2 : Int)) (.slice A4 n4 c4)); have SEx := Lib.hid (EA.out.put3 bk (.int .u64 (k2 : Int)) (.int .u64 (p2 : Int)) (.slice A4 n4 c4)); have SNx := Lib.hid (DA'.out.put3 bk (.int .u64 (k2 : Int)) (.int .u64 (p2 : Int)) (.slice A4 n4 c4)); clear v0 v1 v2 vf0 vf1 vf2 vl MA hA6 EA DA' bk)
          | (have MX := Lib.hid ((MB.out.alloc #[.int .u64 (k2 : Int), .int .u64 (p2 : Int), .slice A4 n4 c4] 41).sel [0, 1, 2, 3, 4, 5, 6, 9, 7, 8] (by decide)); have hN := (Held.refl w6).alloc (.cells #[.int .u64 (k2 : Int), .int .u64 (p2 : Int), .slice A4 n4 c4] 41); have SRx := Lib.hid ((SR.out.held hB6.out).held hN); have SQx := Lib.hid ((SQ.out.held hB6.out).held hN); have SDx := Lib.hid ((SD.out.held hB6.out).held hN); have SEx := Lib.hid (EB.out.held hN); have SNx := Lib.hid (DB.out.held hN); clear MB hB6 EB DB hN)
          obtain ⟨⟨v0, v1, v2⟩, _, vl⟩ := MX.out.box3 7 rfl
          obtain ⟨⟨r0, r1, r2⟩, ⟨rf0, rf1, rf2⟩, rl⟩ := MX.out.box3 3 rfl
          have hn37 := MX.out.ne 3 7 rfl rfl (by decide)
          have hn73 := MX.out.ne 7 3 rfl rfl (by decide)
          have hdn : dn ≤ 8 := by
            have h1 := (Own.reads segC_len (MX.out.row 9 rfl)).2.1
            have h2 := congrArg List.length HD4.out
            rw [gs_len, ← HDD.out, List.length_take] at h2
            have h3 := HKK.out
            omega
          have bk := Blk.of MX.out 3 rfl (by decide) (Nat.zero_le _)
          have MP := Lib.hid (MX.out.put3 3 rfl (.int .u64 (k2 : Int)) (.int .u64 (p2 : Int)) (.slice A4 n4 c4))
          have BK := Lib.hid bk
          have HSL := Lib.hid (Own.reads segC_len (MX.out.row 9 rfl)).1
          have HSP := Lib.hid (Own.reads segC_len (MP.out.row 9 rfl)).1
          clear bk HZ MZ M SR SQ SE SD HT
          go_wp2
          go_region_law (first
            | (refine Mem.step_catC MX.out.drew 6 rfl (by rfl) _ _ _ (by rfl) _ 40 Try.underlying25 info_seg (by rfl) (by decide) segC_len segC_one D4 DA dn dc (by rfl) (by rfl) (HSL.out.held (Held.refl _).drew) HND.out (by omega) (by decide) ?_; intro A8 c8 w8 M8' k8; have M8a := Lib.hid M8'; have KA := Lib.hid (k8 106 0 (by decide) (Nat.zero_le _)); obtain ⟨⟨e0, e1, e2⟩, _, el⟩ := M8'.box3 7 rfl; obtain ⟨⟨t0', t1', t2'⟩, ⟨tf0, tf1, tf2⟩, tl⟩ := M8'.box3 3 rfl; clear M8' k8)
            | (refine Mem.step_catC MP.out.drew 6 rfl (by rfl) _ _ _ (by rfl) _ 40 Try.underlying25 info_seg (by rfl) (by decide) segC_len segC_one D4 DA dn dc (by rfl) (by rfl) (HSP.out.held (Held.refl _).drew) HND.out (by omega) (by decide) ?_; intro A8 c8 w8 M8' k8; have M8b := Lib.hid M8'; have KB := Lib.hid (k8 106 0 (by decide) (Nat.zero_le _)); obtain ⟨⟨e0, e1, e2⟩, _, el⟩ := M8'.box3 7 rfl; clear M8' k8))
          all_goals
            first
            | (have MF := Lib.hid ((M8a.out.put3 3 rfl (.int .u64 (k2 : Int)) (.int .u64 (p2 : Int)) (.slice A4 n4 c4)).sel [0, 1, 2, 3, 4, 8, 6] (by decide)); have bk := Blk.of M8a.out 3 rfl (by decide) (Nat.zero_le _); have SRf := Lib.hid (((SRx.out.held (Held.refl _).drew).chg KA.out).put3 bk (.int .u64 (k2 : Int)) (.int .u64 (p2 : Int)) (.slice A4 n4 c4)); have SQf := Lib.hid (((SQx.out.held (Held.refl _).drew).chg KA.out).put3 bk (.int .u64 (k2 : Int)) (.int .u64 (p2 : Int)) (.slice A4 n4 c4)); have SEf := Lib.hid (((SEx.out.held (Held.refl _).drew).chg KA.out).put3 bk (.int .u64 (k2 : Int)) (.int .u64 (p2 : Int)) (.slice A4 n4 c4)); have SDf := Lib.hid (((SDx.out.held (Held.refl _).drew).chg KA.out).put3 bk (.int .u64 (k2 : Int)) (.int .u64 (p2 : Int)) (.slice A4 n4 c4)); have SNf := Lib.hid (((SNx.out.held (Held.refl _).drew).chg KA.out).put3 bk (.int .u64 (k2 : Int)) (.int .u64 (p2 : Int)) (.slice A4 n4 c4)); clear bk t0' t1' t2' tf0 tf1 tf2 tl M8a KA)
            | (have MF := Lib.hid (M8b.out.sel [0, 1, 2, 3, 4, 8, 6] (by decide)); have SRf := Lib.hid (((SRx.out.put3 BK.out (.int .u64 (k2 : Int)) (.int .u64 (p2 : Int)) (.slice A4 n4 c4)).held (Held.refl _).drew).chg KB.out); have SQf := Lib.hid (((SQx.out.put3 BK.out (.int .u64 (k2 : Int)) (.int .u64 (p2 : Int)) (.slice A4 n4 c4)).held (Held.refl _).drew).chg KB.out); have SEf := Lib.hid (((SEx.out.put3 BK.out (.int .u64 (k2 : Int)) (.int .u64 (p2 : Int)) (.slice A4 n4 c4)).held (Held.refl _).drew).chg KB.out); have SDf := Lib.hid (((SDx.out.put3 BK.out (.int .u64 (k2 : Int)) (.int .u64 (p2 : Int)) (.slice A4 n4 c4)).held (Held.refl _).drew).chg KB.out); have SNf := Lib.hid (((SNx.out.put3 BK.out (.int .u64 (k2 : Int)) (.int .u64 (p2 : Int)) (.slice A4 n4 c4)).held (Held.refl _).drew).chg KB.out); clear M8b KB)
            clear MX MP SRx SQx SEx SDx SNx v0 v1 v2 vl r0 r1 r2 rf0 rf1 rf2 rl e0 e1 e2 el BK HSL HSP
            go_wp2
            go_roundw
            case rel =>
              refine ⟨q + 1, K', n4, c4, k2, p2, A4, R4, RD ++ D4, by go_num, by omega, HKK.out.2, HK2.out, HP2.out, by rw [HR4.out]; exact HEI2.out, ?_, by rw [HR4.out]; exact HT2.out, MF.out, SRf.out, SQf.out, SEf.out, SDf.out.cat SNf.out⟩
              have e1 : gs (RD ++ D4) = gs RD ++ gs D4 := List.map_append
              have e2 : (gs R).take (K + (K' - K)) = (gs R).take K ++ ((gs R).drop K).take (K' - K) := List.take_add
              have e3 : K + (K' - K) = K' := by have := HKK.out; omega
              rw [e1, HGD.out, HD4.out, ← HDD.out, ← e2, e3]
            case measure => (simp [RowKit.intOf]) <;> omega
    · obtain rfl : q = len2 + nP := by omega
      have zl : ¬ ((len2 + nP : Nat) : Int) < (len2 : Int) + nP := by omega
      have zl2 : ¬ ((len2 : Int) + nP) < (len2 : Int) + nP := by omega
      have hKn : K = nP := by
        rcases Nat.lt_or_ge K nP with h | h
        · rcases HTK.out K (by omega) with h1 | ⟨x, hx, hxs⟩
          · omega
          · obtain ⟨i, hi, h1, h2, rfl⟩ := HEI.out.mem x hx
            simp only at hxs
            omega
        · have := HKN.out; omega
      subst hKn
      have hrp := fun (w' : World) (k : Held wr w') => reply_any k1 pK AE nE cE RE 0 w' ((Own.reads erC_len (M.out.row 5 rfl)).1.held k) (SE.out.held k) hnE (by have := HK1.out; omega) (by have := HCH.out.lt (by omega) (i := K) (by rw [HGL.out]; exact Nat.le_refl _); have := HPK.out; omega)
      have hpp : pK = pn := by rw [HPK.out, HPN.out]
      have hr0 : (⟨k1, pK, ers RE⟩ : Rcv) = rcvAt at_ (gs R) K (ers RE) := by unfold rcvAt; rw [HK1.out, HPK.out]
      rw [hr0, reply_at HCH.out HEI.out (by omega) (by omega)] at hrp
      have hpl := HCH.out.lt (by omega) (i := K) (by rw [HGL.out]; exact Nat.le_refl _)
      have hak : ((⟨(ackP (K + 1) (pos at_ (gs R) K)).toArray⟩ : ByteArray).size : Int) ≤ 1000000000000 := by
        rw [ba_size]
        have h1 := put_len (K + 1) (by omega)
        have h2 := put_len (pos at_ (gs R) K) hpl
        have h3 := put_len (65 :: put (pos at_ (gs R) K)).length (by rw [List.length_cons]; omega)
        unfold ackP packed
        simp only [List.length_append, be8_len, List.length_cons] at h3 ⊢
        omega
      have hac := fun (w' : World) (k : Held wr w') => acked_any 1 pn at_ AQ K cQ RQ ⟨(ackP (K + 1) (pos at_ (gs R) K)).toArray⟩ 0 w' (Nat.zero_le _) ((Own.reads segC_len (M.out.row 1 rfl)).1.held k) (SQ.out.held k) (by omega) hak
      have haq := acked_at HCH.out (by omega) (a := 0) (p := K) (j := K) (Nat.zero_le _) (by rw [HGL.out]; exact Nat.le_refl _) (by omega) (by omega) (Nat.le_refl _)
      rw [if_pos (by omega), HSND.out] at haq
      rw [show (⟨(ackP (K + 1) (pos at_ (gs R) K)).toArray⟩ : ByteArray).data.toList = ackP (K + 1) (pos at_ (gs R) K) by simp, haq] at hac
      have hsn : sndAt at_ (gs R) K K = ⟨K + 1, pn, pn, []⟩ := by unfold sndAt; rw [HPN.out, Nat.sub_self]; rfl
      rw [hsn] at hac
      generalize ackP (K + 1) (pos at_ (gs R) K) = ak at hrp hac
      obtain ⟨b1, hb1⟩ : ∃ b1, K + 1 = b1 := ⟨_, rfl⟩
      rw [hb1] at hac
      clear hb1
      have HRP := Lib.hid hrp
      have HAC := Lib.hid hac
      obtain ⟨⟨s0, s1, s2, s3⟩, ⟨sf0, sf1, sf2, sf3⟩, sl⟩ := M.out.box4 2 rfl
      clear hrp hac hr0 hak haq hsn hpl hpp
      go_wp2
      go_region_law (first
        | (go_simp; go_at_call 17; refine (HAC.out _ K8.out).mono ?_; rintro e w9 ⟨A9, n9, c9, rfl, ⟨R9, hR9, oR9, sR9⟩, h9⟩; dsimp only at hR9 ⊢; have HR9 := Lib.hid hR9; have M9 := Lib.hid ((M.out.keep K8.out).own h9 oR9); have H9 := Lib.hid (K8.out.step h9); obtain ⟨⟨u0, u1, u2, u3⟩, ⟨uf0, uf1, uf2, uf3⟩, ul⟩ := M9.out.box4 2 rfl; clear hR9 oR9 sR9 h9)
        | (go_simp; go_at_call 18; refine (HRP.out _ (Held.refl wr).drew).mono ?_; rintro e w8 ⟨rfl, h8⟩; have K8 := Lib.hid ((Held.refl wr).drew.step h8); obtain ⟨⟨v0, v1, v2⟩, _, vl⟩ := (M.out.keep K8.out).box3 3 rfl; obtain ⟨⟨t0', t1', t2', t3'⟩, ⟨tf0, tf1, tf2, tf3⟩, tl⟩ := (M.out.keep K8.out).box4 2 rfl; clear h8))
      all_goals
        have hl9 : R9.length = 0 := by have := congrArg List.length HR9.out; rw [gs_len] at this; exact this
        obtain rfl : n9 = 0 := by rw [← hl9]; exact (Own.reads segC_len (M9.out.row 7 rfl)).2.1
        have MA := Lib.hid (M9.out.put4 2 rfl (.int .u64 b1) (.int .u64 pn) (.int .u64 pn) (.slice A9 0 c9))
        have SRA := Lib.hid ((SR.out.held H9.out).put4 (Blk.of M9.out 2 rfl (by decide) (Nat.zero_le _)) (.int .u64 b1) (.int .u64 pn) (.int .u64 pn) (.slice A9 0 c9))
        have SDA := Lib.hid ((SD.out.held H9.out).put4 (Blk.of M9.out 2 rfl (by decide) (Nat.zero_le _)) (.int .u64 b1) (.int .u64 pn) (.int .u64 pn) (.slice A9 0 c9))
        obtain ⟨wA, hwA⟩ : ∃ wA, (((w9.setCell ⟨w2.heap.size, 0, none⟩ (.int .u64 b1)).setCell ⟨w2.heap.size, 1, none⟩ (.int .u64 pn)).setCell ⟨w2.heap.size, 2, none⟩ (.int .u64 pn)).setCell ⟨w2.heap.size, 3, none⟩ (.slice A9 0 c9) = wA := ⟨_, rfl⟩
        have HWA := Lib.hid hwA
        rw [hwA] at MA SRA SDA
        clear hwA
        obtain ⟨⟨x0, x1, x2, x3⟩, _, xl⟩ := MA.out.box4 2 rfl
        have hK1 : 1 ≤ K := by omega
        obtain ⟨kk, hkk⟩ : ∃ kk, K = kk + 1 := ⟨K - 1, by omega⟩
        obtain ⟨gG, xG, rfl, hgeG, hglG, hxG, hxcG⟩ := MA.out.slot 0 rfl segC_len (by decide) (k := kk) (by rw [HRL.out]; omega)
        have hkn : xG.kn = pn := by
          have h1 := gs_at hxG
          have h2 := pos_succ at_ (gs R) (i := kk) (by rw [HGL.out]; omega)
          rw [← hkk, HPN.out] at h2
          rw [List.getElem?_eq_getElem (by rw [HGL.out]; omega)] at h1
          injection h1 with h1
          rw [h1] at h2
          exact h2.symm
        have z1 := (hxcG 1 (by decide)).2 _ rfl
        rw [hkn] at z1
        have hki : (K : Int) - 1 = (kk : Int) := by omega
        have hkw : IntKind.i64.wrap ((K : Int) - 1) = (kk : Int) := by rw [IntWalk.i64_in _ (by omega)]; exact hki
        have hkl : (kk : Int) < K := by omega
        have hk0 : (0 : Int) ≤ kk := by omega
        have hdk := HDK.out
        have hgde : gs RD = gs R := by rw [HGD.out]; exact List.take_of_length_le (by rw [HGL.out]; exact Nat.le_refl _)
        have rA := (Own.reads segC_len (MA.out.row 6 rfl)).1
        have rB := (Own.reads segC_len (MA.out.row 0 rfl)).1
        rw [hdk] at rA
        have cS := Lib.hid fun d os => Calls.regrown_of (d := d) (os := os) (sameS_any AD (some ⟨gG, 0, none⟩) K cD cap RD R 0 (grow (redrawn wA d) os) (rA.held (below_regrown wA d os)) (rB.held (below_regrown wA d os)) (SDA.out.held (below_regrown wA d os)) (SRA.out.held (below_regrown wA d os)) hgde (by omega))
        have cW := Lib.hid fun d os => Calls.regrown_of (d := d) (os := os) (HAW.out (grow (redrawn wA d) os))
        have k1' := cell_regrown x1
        have k2' := cell_regrown x2
        have k3' := cell_regrown x3
        have kz := cell_regrown z1
        subst hdk
        clear hxcG hxG hkn hgeG rA rB hgde hkk hK1 HKN HEI HTK HK1 HPK HGD
        go_wp2
        rw [HWA.out]
        refine wp_region_quiet_below (by kernel_rfl) (by kernel_rfl) ?_
        repeat (go_big_quiet_step (first | (go_at_call 12; with_reducible exact cS.out _ _) | (go_at_call 8; with_reducible exact cW.out _ _)))
        refine wpQuiet_nil ?_
        intro w15 hw'
        obtain ⟨⟨dq, osq⟩, hw''⟩ := hw'
        have h15 : Held wA w15 := by rw [hw'']; exact below_regrown _ dq osq
        clear hw'' k1' k2' k3' kz cS cW
        go_wp2
        go_ret
        exact ⟨rfl, MA.out.held.step h15⟩
end St
end Go.Proofs.Ythpjbffhdaaibaa
