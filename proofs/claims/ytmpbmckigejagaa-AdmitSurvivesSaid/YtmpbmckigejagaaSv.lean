/-
  Contract: Survives of admission.
-/
import Derived.Test.YtmpbmckigejagaaAdm6
import Derived.Test.YtmpbmckigejagaaSl
import Derived.Test.YtmpbmckigejagaaAwk39
namespace Go.Proofs.Ytmpbmckigejagaa
open Go.RowKit
set_option linter.unusedVariables false
set_option maxRecDepth 100000
namespace Ad
structure Cap where
  m : Int
  c : Int
  up : Bool
def upAt (H : List Cap) (h : Int) : Bool := there H.length h && (match H[h.toNat]? with | some c => c.up | none => false)
def ok1 (H : List Cap) (p : Pl) : Bool := decide (p.a ≠ p.b) && (upAt H p.a && upAt H p.b)
def fitAt (H : List Cap) (L : List Pl) (i : Nat) : Bool := match H[i]? with | some c => fits c.m c.c c.up (on L i) | none => true
def fitTo (H : List Cap) (L : List Pl) : Nat → Bool
  | 0 => true
  | k + 1 => fitTo H L k && fitAt H L k
def small (H : List Cap) (L : List Pl) : Bool := decide (1 ≤ H.length) && (decide (H.length ≤ 6) && decide (L.length ≤ 8))
def survives (H : List Cap) (L : List Pl) : Bool := small H L && (L.all (ok1 H) && fitTo H L H.length)
theorem fitTo_no {H : List Cap} {L : List Pl} {k : Nat} (h : fitTo H L k = false) : ∀ j, k ≤ j → fitTo H L j = false := by
  intro j hj
  induction j with
  | zero => obtain rfl : k = 0 := by omega
            exact h
  | succ j ih =>
    by_cases e : k = j + 1
    · rw [← e]; exact h
    · rw [fitTo, ih (by omega)]; rfl
theorem all_at {α : Type} {f : α → Bool} {L : List α} {k : Nat} {x : α} (h : L[k]? = some x) : (L.take (k + 1)).all f = ((L.take k).all f && f x) := by
  obtain ⟨hk, rfl⟩ := List.getElem?_eq_some_iff.1 h
  rw [List.take_succ_eq_append_getElem hk, List.all_append]; simp
theorem all_no {α : Type} {f : α → Bool} {L : List α} {k : Nat} (h : (L.take k).all f = false) : L.all f = false := by
  cases h2 : L.all f
  · rfl
  · rw [List.all_eq_true] at h2
    have : (L.take k).all f = true := List.all_eq_true.2 fun x hx => h2 x (List.mem_of_mem_take hx)
    rw [this] at h; cases h
end Ad
namespace Law39
open Ad Adm
def capC (c : Cap) : List Value := [.int .i64 c.m, .int .i64 c.c, .bool c.up]
abbrev Cs (w : World) (A : Option Addr) (n : Nat) (L : List Cap) : Prop := Sl 3 capC w A n L
theorem Cs.at3 {w a : World} {A : Option Addr} {n : Nat} {L : List Cap} (h : Cs w A n L) (ha : Held w a) {k : Nat} (hk : k < n) : ∃ b off m c up, A = some ⟨b, off, none⟩ ∧ b < w.heap.size ∧ L[k]? = some ⟨m, c, up⟩ ∧
    a.cell? ⟨b, off + k * 3, none⟩ = some (.int .i64 m) ∧ a.cell? ⟨b, off + k * 3 + 1, none⟩ = some (.int .i64 c) ∧ a.cell? ⟨b, off + k * 3 + 2, none⟩ = some (.bool up) := by
  obtain ⟨b, off, x, e, hb, hx, hc⟩ := h.at_ ha hk
  exact ⟨b, off, x.m, x.c, x.up, e, hb, hx, hc 0 _ rfl, hc 1 _ rfl, hc 2 _ rfl⟩
theorem upAt_no {H : List Cap} {z : Int} (h : upAt H z = false) : z < 0 ∨ (H.length : Int) ≤ z ∨ ∃ n : Nat, z = n ∧ n < H.length ∧ ∃ m c, H[n]? = some ⟨m, c, false⟩ := by
  by_cases h0 : z < 0
  · exact .inl h0
  by_cases h1 : (H.length : Int) ≤ z
  · exact .inr (.inl h1)
  refine .inr (.inr ⟨z.toNat, by omega, by omega, ?_⟩)
  have hlt : z.toNat < H.length := by omega
  unfold upAt there at h
  rw [List.getElem?_eq_getElem hlt] at h
  refine ⟨H[z.toNat].m, H[z.toNat].c, ?_⟩
  rw [List.getElem?_eq_getElem hlt]
  have : H[z.toNat].up = false := by simpa [show 0 ≤ z by omega, show z < H.length by omega] using h
  rw [← this]
theorem upAt_yes {H : List Cap} {z : Int} (h : upAt H z = true) : ∃ n : Nat, z = n ∧ n < H.length ∧ ∃ m c, H[n]? = some ⟨m, c, true⟩ := by
  unfold upAt there at h
  simp only [Bool.and_eq_true, decide_eq_true_eq] at h
  obtain ⟨⟨h0, h1⟩, h2⟩ := h
  have hlt : z.toNat < H.length := by omega
  rw [List.getElem?_eq_getElem hlt] at h2
  refine ⟨z.toNat, by omega, hlt, H[z.toNat].m, H[z.toNat].c, ?_⟩
  rw [List.getElem?_eq_getElem hlt, ← h2]
theorem survives_any (HA : Option Addr) (hlen hcap : Nat) (H : List Cap) (A : Option Addr) (len cap : Nat) (L : List Pl) (w : World) (hC : Cs w HA hlen H) (hP : Ps w A len L) (hhl : (hlen : Int) ≤ 1000) (hl : (len : Int) ≤ 1000) :
    Calls Try.prog 23 #[.slice HA hlen hcap, .slice A len cap] w fun e w' => e = .returned (.bool (survives H L)) ∧ Held w w' := by
  have HC := Lib.hid hC
  have HHL := Lib.hid hC.1
  have HP := Lib.hid hP
  have HL := Lib.hid hP.1
  clear hC hP
  have HN := fun (h : small H L = false) => Lib.hid (show survives H L = false by unfold survives; rw [h]; rfl)
  by_cases s1 : (hlen : Int) < 1
  · have H1 := HN (by unfold small; rw [HHL.out]; simp; omega)
    clear HN
    go_enter Try.func23, Try.ntmps23
    go_wp2
    go_ret
    exact ⟨by rw [H1.out]; rfl, Held.refl _⟩
  by_cases s2 : (6 : Int) < hlen
  · have H1 := HN (by unfold small; rw [HHL.out]; simp; omega)
    clear HN
    go_enter Try.func23, Try.ntmps23
    go_wp2
    go_ret
    exact ⟨by rw [H1.out]; rfl, Held.refl _⟩
  by_cases s3 : (8 : Int) < len
  · have H1 := HN (by unfold small; rw [HHL.out, HL.out]; simp; omega)
    clear HN
    go_enter Try.func23, Try.ntmps23
    go_wp2
    go_ret
    exact ⟨by rw [H1.out]; rfl, Held.refl _⟩
  have HS : Hid (survives H L = (L.all (ok1 H) && fitTo H L hlen)) := show _ = _ by
    unfold survives; rw [show small H L = true by unfold small; rw [HHL.out, HL.out]; simp; omega, HHL.out]; rfl
  clear HN
  go_enter Try.func23, Try.ntmps23
  go_wp2
  go_loopw [26] (fun i wr => ∃ k : Nat, k ≤ len ∧ i = .int .i64 k ∧ (L.take k).all (ok1 H) = true ∧ Held w wr) (fun i _ => len - (intOf i).toNat)
  case atStart => exact ⟨0, Nat.zero_le _, rfl, rfl, Held.refl _⟩
  case round =>
    obtain ⟨k, hk, rfl, hall, hh⟩ := hrel
    have HA' := Lib.hid hall
    clear hall
    by_cases hlt : k < len
    · obtain ⟨b, off, nm, r, l, c, g, x, y, rfl, hn, c0, c1, c2, c3, c4, c5, c6⟩ := HP.out.at_ hh hlt
      have HK := Lib.hid (all_at (f := ok1 H) hn)
      have HNo := fun (h : ok1 H ⟨nm, ⟨r, l, c, g⟩, x, y⟩ = false) => Lib.hid (show survives H L = false by rw [HS.out, all_no (k := k + 1) (by rw [HK.out, h, Bool.and_false])]; rfl)
      clear hn
      by_cases hxy : x = y
      · have H1 := HNo (by unfold ok1; simp [hxy])
        clear HNo
        subst hxy
        go_wp2
        go_ret
        exact ⟨by rw [H1.out]; rfl, hh.alloc _⟩
      · have hxy' : (x == y) = false := by simp [hxy]
        have i0 : ∀ w : World, (Instr.index 46 (.agg #[.int .i64 x, .int .i64 y]) (.int .i64 0)).run Try.prog w = .ok (.int .i64 x) w := fun _ => by kernel_rfl
        have i1 : ∀ w : World, (Instr.index 46 (.agg #[.int .i64 x, .int .i64 y]) (.int .i64 1)).run Try.prog w = .ok (.int .i64 y) w := fun _ => by kernel_rfl
        go_wp2
        go_loop [39] (fun i => ∃ j : Nat, j ≤ 2 ∧ i = .int .i64 j ∧ (0 < j → upAt H x = true) ∧ (1 < j → upAt H y = true)) (fun i => 2 - (intOf i).toNat)
        case atStart => exact ⟨0, by omega, rfl, by omega, by omega⟩
        case round =>
          obtain ⟨j, hj, rfl, hu1, hu2⟩ := hrel
          have HU1 := Lib.hid hu1
          have HU2 := Lib.hid hu2
          clear hu1 hu2
          have hB := Lib.hid (hh.alloc (.cells #[.string nm, .int .i64 r, .int .i64 l, .int .i64 c, .int .i64 g, .int .i64 x, .int .i64 y] 48))
          by_cases hj2 : j < 2
          · obtain ⟨z, hz, iz⟩ : ∃ z, (if j = 0 then x else y) = z ∧ ∀ w : World, (Instr.index 46 (.agg #[.int .i64 x, .int .i64 y]) (.int .i64 j)).run Try.prog w = .ok (.int .i64 z) w := by
              obtain rfl | rfl : j = 0 ∨ j = 1 := by omega
              · exact ⟨x, by simp, i0⟩
              · exact ⟨y, by simp, i1⟩
            clear i0 i1
            have HZ := Lib.hid hz
            clear hz
            cases hup : upAt H z
            · have H1 := HNo (by
                have h1 := HZ.out
                unfold ok1
                by_cases e : j = 0
                · rw [if_pos e] at h1; subst h1; simp [hup]
                · rw [if_neg e] at h1; subst h1; simp [hup])
              clear HNo
              rcases upAt_no hup with h1 | h1 | ⟨n, rfl, hn, m', c', hn'⟩
              · clear hup
                go_wp2
                go_ret
                exact ⟨by rw [H1.out]; rfl, hB.out⟩
              · clear hup
                rw [HHL.out] at h1
                go_wp2
                go_ret
                exact ⟨by rw [H1.out]; rfl, hB.out⟩
              · clear hup
                rw [HHL.out] at hn
                obtain ⟨bb, oo, m, cc, up, rfl, hbb, hq, q0, q1, q2⟩ := HC.out.at3 hB.out hn
                rw [hn'] at hq
                injection hq with hq
                injection hq with e1 e2 e3
                subst e1 e2 e3
                clear hn'
                go_wp2
                go_ret
                exact ⟨by rw [H1.out]; rfl, hB.out⟩
            · obtain ⟨n, hzn, hn, m', c', hn'⟩ := upAt_yes hup
              have HUP := Lib.hid hup
              clear hup
              rw [HHL.out] at hn
              obtain ⟨bb, oo, m, cc, up, rfl, hbb, hq, q0, q1, q2⟩ := HC.out.at3 hB.out hn
              rw [hn'] at hq
              injection hq with hq
              injection hq with e1 e2 e3
              subst e1 e2 e3 hzn
              clear hn'
              go_wp2
              go_round
              case rel =>
                have h1 := HZ.out
                have h2 := HUP.out
                refine ⟨j + 1, by omega, by go_num, fun _ => ?_, fun hj1 => ?_⟩
                · by_cases e : j = 0
                  · rw [if_pos e] at h1; rw [h1]; exact h2
                  · exact HU1.out (by omega)
                · rw [if_neg (by omega)] at h1; rw [h1]; exact h2
              case measure => simp [intOf]; omega
          · obtain rfl : j = 2 := by omega
            have H2 : Hid ((L.take (k + 1)).all (ok1 H) = true) := show _ = _ by
              rw [HK.out, HA'.out]; unfold ok1; rw [HU1.out (by omega), HU2.out (by omega)]; simp [hxy]
            go_wp2
            go_roundw
            case rel => exact ⟨k + 1, by omega, by go_num, H2.out, hB.out⟩
            case measure => simp [intOf]; omega
    · obtain rfl : k = len := by omega
      have HT : Hid (L.all (ok1 H) = true) := show _ = _ by rw [← HA'.out, ← HL.out, List.take_length]
      have HS2 : Hid (survives H L = fitTo H L hlen) := show _ = _ by rw [HS.out, HT.out]; rfl
      clear HS HA'
      go_wp2
      have HH := Lib.hid hh
      clear hh
      go_loopw [62] (fun i w2 => ∃ j : Nat, j ≤ hlen ∧ i = .int .i64 j ∧ fitTo H L j = true ∧ Held w w2) (fun i _ => hlen - (intOf i).toNat)
      case atStart => exact ⟨0, Nat.zero_le _, rfl, rfl, HH.out⟩
      case round =>
        obtain ⟨j, hj, rfl, hft, hh2⟩ := hrel
        have HT2 := Lib.hid hft
        clear hft
        by_cases hjl : j < hlen
        · obtain ⟨bb, oo, m, c, up, rfl, hbb, hq, q0, q1, q2⟩ := HC.out.at3 hh2 hjl
          have HF : Hid (fitTo H L (j + 1) = fits m c up (on L j)) := show _ = _ by rw [fitTo, HT2.out, Bool.true_and]; unfold fitAt; rw [hq]
          have hsz := hh2.le
          have hP2 := HP.out.held hh2
          have HP2 := Lib.hid hP2
          have hol := on_len L j
          have hol' : ((on L j).length : Int) ≤ 100 := by rw [HL.out] at hol; omega
          clear hq hP2 hol
          obtain ⟨ft, hf⟩ : ∃ x, fits m c up (on L j) = x := ⟨_, rfl⟩
          have HFT := Lib.hid hf
          rw [hf] at HF
          clear hf
          have s0 : (wr.alloc (.cells #[.int .i64 m, .int .i64 c, .bool up] 26)).cell? ⟨wr.heap.size, 0, none⟩ = some (.int .i64 m) := by simp
          have s1' : (wr.alloc (.cells #[.int .i64 m, .int .i64 c, .bool up] 26)).cell? ⟨wr.heap.size, 1, none⟩ = some (.int .i64 c) := by simp
          have s2' : (wr.alloc (.cells #[.int .i64 m, .int .i64 c, .bool up] 26)).cell? ⟨wr.heap.size, 2, none⟩ = some (.bool up) := by simp
          have W0 : Hid (Held wr (wr.alloc (.cells #[.int .i64 m, .int .i64 c, .bool up] 26))) := Lib.hid ((Held.refl _).alloc _)
          cases ft
          · have H3 : Hid (survives H L = false) := show _ = _ by rw [HS2.out]; exact fitTo_no HF.out _ (by omega)
            go_wp2
            go_region_held3 (fun w' => w'.cell? ⟨wr.heap.size, 0, none⟩ = some (.int .i64 m) ∧ w'.cell? ⟨wr.heap.size, 1, none⟩ = some (.int .i64 c) ∧ w'.cell? ⟨wr.heap.size, 2, none⟩ = some (.bool up) ∧ Held (wr.alloc (.cells #[.int .i64 m, .int .i64 c, .bool up] 26)) w')
              ((repeat' refine And.intro ?_ ?_) <;> first | exact s0 | exact s1' | exact s2' | exact (Held.refl _).drew | exact Held.cell (by assumption) s0 | exact Held.cell (by assumption) s1' | exact Held.cell (by assumption) s2' | exact (by assumption))
              (first | (go_at_call 15; refine (on_any _ _ _ L _ _ (HP2.out.held (W0.out.drew)) (by omega)).mono ?_; rintro e w3 ⟨v, rfl, hown, h3⟩; obtain ⟨A3, cp3, rfl, hcp⟩ := own_slice hown; obtain ⟨hds, hn, _⟩ := ds_of_own hown; have HDS := Lib.hid hds; clear hown hds hn; have h4 : Held (wr.alloc (.cells #[.int .i64 m, .int .i64 c, .bool up] 26)) w3 := (Held.drew (Held.refl _)).step h3) | (go_at_call 10; refine (fits_any _ _ _ _ _ _ (on L j) _ HDS.out (by omega) (by omega)).mono ?_; rintro e w5 ⟨rfl, h5⟩; rw [HFT.out]; have h6 : Held (wr.alloc (.cells #[.int .i64 m, .int .i64 c, .bool up] 26)) w5 := h4.step h5))
            go_wp2
            go_ret
            exact ⟨by rw [H3.out]; rfl, hh2.step (W0.out.step h6)⟩
          · have H3 : Hid (fitTo H L (j + 1) = true) := show _ = _ by rw [HF.out]
            go_wp2
            go_region_held3 (fun w' => w'.cell? ⟨wr.heap.size, 0, none⟩ = some (.int .i64 m) ∧ w'.cell? ⟨wr.heap.size, 1, none⟩ = some (.int .i64 c) ∧ w'.cell? ⟨wr.heap.size, 2, none⟩ = some (.bool up) ∧ Held (wr.alloc (.cells #[.int .i64 m, .int .i64 c, .bool up] 26)) w')
              ((repeat' refine And.intro ?_ ?_) <;> first | exact s0 | exact s1' | exact s2' | exact (Held.refl _).drew | exact Held.cell (by assumption) s0 | exact Held.cell (by assumption) s1' | exact Held.cell (by assumption) s2' | exact (by assumption))
              (first | (go_at_call 15; refine (on_any _ _ _ L _ _ (HP2.out.held (W0.out.drew)) (by omega)).mono ?_; rintro e w3 ⟨v, rfl, hown, h3⟩; obtain ⟨A3, cp3, rfl, hcp⟩ := own_slice hown; obtain ⟨hds, hn, _⟩ := ds_of_own hown; have HDS := Lib.hid hds; clear hown hds hn; have h4 : Held (wr.alloc (.cells #[.int .i64 m, .int .i64 c, .bool up] 26)) w3 := (Held.drew (Held.refl _)).step h3) | (go_at_call 10; refine (fits_any _ _ _ _ _ _ (on L j) _ HDS.out (by omega) (by omega)).mono ?_; rintro e w5 ⟨rfl, h5⟩; rw [HFT.out]; have h6 : Held (wr.alloc (.cells #[.int .i64 m, .int .i64 c, .bool up] 26)) w5 := h4.step h5))
            go_wp2
            go_roundw
            case rel => exact ⟨j + 1, by omega, by go_num, H3.out, hh2.step (W0.out.step h6)⟩
            case measure => simp [intOf]; omega
        · obtain rfl : j = hlen := by omega
          go_wp2
          go_ret
          exact ⟨by rw [HS2.out, HT2.out]; rfl, hh2⟩
end Law39
end Go.Proofs.Ytmpbmckigejagaa
