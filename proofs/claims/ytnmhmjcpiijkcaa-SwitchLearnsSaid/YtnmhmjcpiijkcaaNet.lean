/-
  Contracts of package network (chapter 33): the table of a switch, what it learns, where a frame goes.
-/
import Derived.Test.YtnmhmjcpiijkcaaSlcLr
import Derived.Test.YtnmhmjcpiijkcaaProg
import Derived.WalkSpells
import Derived.WalkLawsBesides
import Derived.BigQuiet
import Derived.Deep.QuietTactic
import Derived.Deep.RegionHeld3
import Derived.Outline
set_option linter.unusedVariables false
set_option maxRecDepth 100000
namespace Go.Proofs.Ytnmhmjcpiijkcaa
open Go.RowKit
namespace Net
/-- An entry of the table: address, port. -/
structure Lr where
  a : Nat
  p : Int
def lrC (x : Lr) : List Value := [.int .u8 (x.a : Int), .int .i64 x.p]
theorem lrC_len (x : Lr) : (lrC x).length = 2 := rfl
theorem lrC_one (x : Lr) : ∀ u ∈ lrC x, u.oneCell' = true := by
  intro u hu
  simp only [lrC, List.mem_cons, List.not_mem_nil, or_false] at hu
  rcases hu with rfl | rfl <;> rfl
/-- The index of the first entry with an address, from k on. -/
def findF (a : Nat) : Nat → List Lr → Int
  | _, [] => -1
  | k, x :: L => if x.a = a then k else findF a (k + 1) L
def find (L : List Lr) (a : Nat) : Int := findF a 0 L
theorem cl_yes (x : Lr) (p : Addr) (a : Nat) (w : World) (hp : w.cell? p = some (.int .u8 (a : Int))) (h : x.a = a) :
    Calls Try.prog 24 #[.agg #[.int .u8 (x.a : Int), .int .i64 x.p], .pointer (some p)] w fun e w' => e = .returned (.bool true) ∧ Held w w' := by
  have hp2 := ((Held.refl w).alloc (.cells #[.int .u8 (x.a : Int), .int .i64 x.p] 35)).cell hp
  have HH : Hid (Held w (w.alloc (.cells #[.int .u8 (x.a : Int), .int .i64 x.p] 35))) := (Held.refl w).alloc _
  obtain ⟨xa, xp⟩ := x
  simp only at h
  subst h
  go_enter Try.func24, Try.ntmps24
  go_wp2
  go_ret
  exact ⟨rfl, HH.out⟩
theorem cl_no (x : Lr) (p : Addr) (a : Nat) (w : World) (hp : w.cell? p = some (.int .u8 (a : Int))) (h : ¬ x.a = a) :
    Calls Try.prog 24 #[.agg #[.int .u8 (x.a : Int), .int .i64 x.p], .pointer (some p)] w fun e w' => e = .returned (.bool false) ∧ Held w w' := by
  have hp2 := ((Held.refl w).alloc (.cells #[.int .u8 (x.a : Int), .int .i64 x.p] 35)).cell hp
  have HH : Hid (Held w (w.alloc (.cells #[.int .u8 (x.a : Int), .int .i64 x.p] 35))) := (Held.refl w).alloc _
  have h2 : ((x.a : Int) == (a : Int)) = false := by simp; omega
  clear h
  obtain ⟨xa, xp⟩ := x
  go_enter Try.func24, Try.ntmps24
  go_wp2
  go_ret
  exact ⟨rfl, HH.out⟩
theorem findF_hit (a : Nat) : ∀ (L : List Lr) (k m : Nat), (∀ j (h : j < L.length), j < k → ¬ L[j].a = a) → ∀ hk : k < L.length, L[k].a = a → findF a m L = ((m + k : Nat) : Int)
  | [], k, m, _, hk, _ => by simp at hk
  | x :: L, 0, m, _, _, h => by
    have h' : x.a = a := h
    unfold findF; rw [if_pos h']; rfl
  | x :: L, k + 1, m, hn, hk, h => by
    have h0 : ¬ x.a = a := hn 0 (by simp) (by omega)
    unfold findF
    rw [if_neg h0, findF_hit a L k (m + 1) (fun j hj hjk => by have := hn (j + 1) (by simpa using hj) (by omega); simpa using this) (by simpa using hk) (by simpa using h)]
    congr 1; omega
theorem findF_none (a : Nat) : ∀ (L : List Lr) (m : Nat), (∀ j (h : j < L.length), ¬ L[j].a = a) → findF a m L = -1
  | [], m, _ => rfl
  | x :: L, m, hn => by
    have h0 : ¬ x.a = a := hn 0 (by simp)
    unfold findF
    rw [if_neg h0]
    exact findF_none a L (m + 1) (fun j hj => by have := hn (j + 1) (by simpa using hj); simpa using this)
/-- What the search finds: the first entry with the address, or none. -/
theorem find_spec (L : List Lr) (a : Nat) : (find L a = -1 ∧ ∀ x ∈ L, ¬ x.a = a) ∨ ∃ k, ∃ hk : k < L.length, find L a = k ∧ L[k].a = a ∧ ∀ j (h : j < L.length), j < k → ¬ L[j].a = a := by
  by_cases h : ∃ x ∈ L, x.a = a
  · have hp : ∃ k, ∃ hk : k < L.length, L[k].a = a := by
      obtain ⟨x, hx, hxa⟩ := h
      obtain ⟨k, hk, rfl⟩ := List.mem_iff_getElem.1 hx
      exact ⟨k, hk, hxa⟩
    have hmin : ∀ n k, k ≤ n → ∀ hk : k < L.length, L[k].a = a → ∃ k, ∃ hk : k < L.length, L[k].a = a ∧ ∀ j (h : j < L.length), j < k → ¬ L[j].a = a := by
      intro n
      induction n with
      | zero => exact fun k h0 hk ha => ⟨k, hk, ha, fun j _ hj => by omega⟩
      | succ n ih =>
        intro k hkn hk ha
        by_cases hex : ∃ j, ∃ hj : j < L.length, j < k ∧ L[j].a = a
        · obtain ⟨j, hj, hjk, hja⟩ := hex
          exact ih j (by omega) hj hja
        · exact ⟨k, hk, ha, fun j hj hjk hja => hex ⟨j, hj, hjk, hja⟩⟩
    obtain ⟨k, hk, ha⟩ := hp
    obtain ⟨k, hk, ha, hno⟩ := hmin k k (Nat.le_refl _) hk ha
    exact .inr ⟨k, hk, by rw [find, findF_hit a L k 0 hno hk ha, Nat.zero_add], ha, hno⟩
  · exact .inl ⟨findF_none a L 0 (fun j hj e => h ⟨_, List.getElem_mem hj, e⟩), fun x hx e => h ⟨x, hx, e⟩⟩
theorem find_any (A : Option Addr) (n cap : Nat) (L : List Lr) (a : Nat) (w : World) (h : Sl 2 lrC w A n L) (hmax : n ≤ 1099511627776) (hcap : n ≤ cap) :
    Calls Try.prog 19 #[.slice A n cap, .int .u8 (a : Int)] w fun e w' => e = .returned (.int .i64 (find L a)) ∧ Held w w' := by
  have HS := Lib.hid h
  have hlen := h.1
  have HL := Lib.hid hlen
  clear h hlen
  go_enter Try.func19, Try.ntmps19
  go_wp2
  go_loopw [5, 8] (fun _ i wr => ∃ k : Nat, k ≤ n ∧ i = .int .i64 k ∧ (∀ j (h : j < L.length), j < k → ¬ L[j].a = a) ∧ Held (w.alloc (.cells #[.int .u8 (a : Int)] 5)) wr) (fun _ i _ => n - (intOf i).toNat)
  case atStart => exact ⟨0, Nat.zero_le _, rfl, fun j _ hj => by omega, Held.refl _⟩
  case round =>
    obtain ⟨k, hk, rfl, hno, hh⟩ := hrel
    have HH := Lib.hid hh
    have HN := Lib.hid hno
    have hp := hh.cell (p := ⟨w.heap.size, 0, none⟩) (v := .int .u8 (a : Int)) (by simp)
    clear hno
    by_cases hlt : (k : Int) < n
    · obtain ⟨b, off, x, rfl, hb, hx, hc⟩ := HS.out.at_ (((Held.refl w).alloc (.cells #[.int .u8 (a : Int)] 5)).step hh) (k := k) (by omega)
      have hxk : ∃ hk : k < L.length, L[k] = x := by
        rw [List.getElem?_eq_some_iff] at hx
        exact hx
      have f0 := hc 0 _ rfl
      have f1 := hc 1 _ rfl
      rw [Nat.add_zero] at f0
      clear hc hh hx
      by_cases hxa : x.a = a
      · have hcl := Lib.hid (cl_yes x ⟨w.heap.size, 0, none⟩ a wr hp hxa)
        have hfi : Hid (find L a = (k : Int)) := by
          obtain ⟨hkl, hk2⟩ := hxk
          show _ = _
          rw [find, findF_hit a L k 0 HN.out hkl (by rw [hk2]; exact hxa), Nat.zero_add]
        clear hxk hxa
        go_wp2_with (go_at_call 24; refine hcl.out.mono ?_; rintro e w1 ⟨rfl, h1⟩)
        go_ret
        exact ⟨by rw [hfi.out]; rfl, (((Held.refl w).alloc _).step HH.out).step h1⟩
      · have hcl := Lib.hid (cl_no x ⟨w.heap.size, 0, none⟩ a wr hp hxa)
        have HN2 : Hid (∀ j (h : j < L.length), j < k + 1 → ¬ L[j].a = a) := by
          intro j hj hjk
          by_cases hjk2 : j < k
          · exact HN.out j hj hjk2
          · obtain rfl : j = k := by omega
            obtain ⟨hkl, hk2⟩ := hxk
            rw [hk2]; exact hxa
        clear hxk hxa
        go_wp2_with (go_at_call 24; refine hcl.out.mono ?_; rintro e w1 ⟨rfl, h1⟩)
        go_roundw
        case rel => exact ⟨k + 1, by omega, by go_num, HN2.out, HH.out.step h1⟩
        case measure => (simp [intOf]) <;> omega
    · have hfi : Hid (find L a = -1) := findF_none a L 0 (fun j hj => HN.out j hj (by rw [HL.out] at hj; omega))
      clear hh
      go_wp2
      go_ret
      exact ⟨by rw [hfi.out]; rfl, ((Held.refl w).alloc _).step HH.out⟩
/-- A switch's table, in order: at most 16 entries, no address twice, none 255, each port among P. -/
structure VS (P : Int) (L : List Lr) : Prop where
  lo : 1 ≤ P
  hi : P ≤ 8
  len : L.length ≤ 16
  ent : ∀ x ∈ L, x.a < 255 ∧ 0 ≤ x.p ∧ x.p < P
  dis : L.Pairwise (fun x y => ¬ x.a = y.a)
theorem VS.find_at {P : Int} {L : List Lr} (h : VS P L) (k : Nat) (hk : k < L.length) : find L L[k].a = k := by
  rw [find, findF_hit L[k].a L k 0 (fun j hj hjk => List.pairwise_iff_getElem.1 h.dis j k hj hk hjk) hk rfl, Nat.zero_add]
theorem valid_yes (P : Int) (A : Option Addr) (n cap : Nat) (L : List Lr) (w : World) (h : Sl 2 lrC w A n L) (hcap : n ≤ cap) (hv : VS P L) :
    Calls Try.prog 10 #[.agg #[.int .i64 P, .slice A n cap]] w fun e w' => e = .returned (.bool true) ∧ Held w w' := by
  have HS := Lib.hid h
  have hlen := h.1
  have HL := Lib.hid hlen
  have HV := Lib.hid hv
  have p1 := hv.lo
  have p2 := hv.hi
  have hn : n ≤ 16 := by have := hv.len; omega
  clear h hlen hv
  go_enter Try.func10, Try.ntmps10
  go_wp2
  go_loopw [3, 4, 22] (fun _ _ i wr => ∃ k : Nat, k ≤ n ∧ i = .int .i64 k ∧ Held (w.alloc (.cells #[.int .i64 P, .slice A n cap] 26)) wr) (fun _ _ i _ => n - (intOf i).toNat)
  case atStart => exact ⟨0, Nat.zero_le _, rfl, Held.refl _⟩
  case round =>
    obtain ⟨k, hk, rfl, hh⟩ := hrel
    have HH := Lib.hid hh
    have g0 := hh.cell (p := ⟨w.heap.size, 0, none⟩) (v := .int .i64 P) (by simp)
    have g1 := hh.cell (p := ⟨w.heap.size, 1, none⟩) (v := .slice A n cap) (by simp)
    by_cases hlt : (k : Int) < n
    · have hw := ((Held.refl w).alloc (.cells #[.int .i64 P, .slice A n cap] 26)).step hh
      obtain ⟨b, off, x, rfl, hb, hx, hc⟩ := HS.out.at_ hw (k := k) (by omega)
      have hxk : ∃ hk : k < L.length, L[k] = x := by
        rw [List.getElem?_eq_some_iff] at hx
        exact hx
      have hxe : x.a < 255 ∧ 0 ≤ x.p ∧ x.p < P := by obtain ⟨h1, h2⟩ := hxk; rw [← h2]; exact HV.out.ent _ (List.getElem_mem h1)
      have hfk : Hid (find L x.a = (k : Int)) := by obtain ⟨h1, h2⟩ := hxk; rw [← h2]; exact HV.out.find_at k h1
      have f0 := hc 0 _ rfl
      have f1 := hc 1 _ rfl
      rw [Nat.add_zero] at f0
      obtain ⟨xa, xp⟩ := x
      simp only at f0 f1 hxe hfk
      have x1 := hxe.1
      have x2 := hxe.2.1
      have x3 := hxe.2.2
      have x4 : ((xa : Int) == 255) = false := by simp; omega
      have hal : Held wr (wr.alloc (.cells #[.int .u8 (xa : Int), .int .i64 xp] 35)) := (Held.refl wr).alloc _
      have g0' := hal.cell g0
      have g1' := hal.cell g1
      have hfi := Lib.hid (find_any (some ⟨b, off, none⟩) n cap L xa (wr.alloc (.cells #[.int .u8 (xa : Int), .int .i64 xp] 35)) ((HS.out.held hw).held hal) (by omega) hcap)
      have HAL := Lib.hid hal
      clear hc hx hxk hxe hh hw hal
      go_wp2_with (go_at_call 19; refine hfi.out.mono ?_; rintro e w1 ⟨rfl, h1⟩; rw [hfk.out])
      go_roundw
      case rel => exact ⟨k + 1, by omega, by go_num, (HH.out.step HAL.out).step h1⟩
      case measure => (simp [intOf]) <;> omega
    · go_wp2
      go_ret
      exact ⟨rfl, ((Held.refl w).alloc _).step HH.out⟩
theorem new_any (P : Int) (w : World) (h1 : 1 ≤ P) (h2 : P ≤ 8) :
    Calls Try.prog 6 #[.int .i64 P] w fun e w' => e = .returned (.tuple #[.agg #[.int .i64 P, .slice none 0 0], .bool true]) ∧ Held w w' := by
  go_enter Try.func6, Try.ntmps6
  go_wp2
  refine bodyPost_ret (v := .tuple #[.agg #[.int .i64 P, .slice none 0 0], .bool true]) (by simp [results, Try.results6, go_sem]) rfl ⟨rfl, (Held.refl w).alloc _⟩
theorem port_hit (P : Int) (A : Option Addr) (n cap : Nat) (L : List Lr) (a k : Nat) (w : World) (h : Sl 2 lrC w A n L) (hn : n ≤ 16) (hcap : n ≤ cap) (hk : k < L.length) (hf : find L a = k) :
    Calls Try.prog 12 #[.agg #[.int .i64 P, .slice A n cap], .int .u8 (a : Int)] w fun e w' => e = .returned (.tuple #[.int .i64 L[k].p, .bool true]) ∧ Held w w' := by
  have hal : Held w (w.alloc (.cells #[.int .i64 P, .slice A n cap] 26)) := (Held.refl w).alloc _
  have hfi := Lib.hid (find_any A n cap L a _ (h.held hal) (by omega) hcap)
  have hkn : (k : Int) < n := by have := h.1; omega
  have HF := Lib.hid hf
  have HS := Lib.hid h
  obtain ⟨q, hq⟩ : ∃ q, L[k].p = q := ⟨_, rfl⟩
  have HQ := Lib.hid hq
  rw [hq]
  clear hf h hq
  go_enter Try.func12, Try.ntmps12
  go_wp2_with fail
  refine hfi.out.mono ?_
  rintro e w1 ⟨rfl, h1⟩
  rw [HF.out]
  have hh := hal.step h1
  obtain ⟨b, off, x, rfl, hb, hx, hc⟩ := HS.out.at_ hh (k := k) (by omega)
  have hxk : x.p = q := by
    rw [List.getElem?_eq_getElem hk] at hx
    injection hx with hx
    rw [← hx]; exact HQ.out
  have f1 := hc 1 _ rfl
  rw [hxk] at f1
  have g1 := h1.cell (p := ⟨w.heap.size, 1, none⟩) (v := .slice (some ⟨b, off, none⟩) n cap) (by simp)
  have HH := Lib.hid hh
  clear hc hx hxk h1 hh hal HQ hk
  go_wp2
  go_ret2
  exact ⟨rfl, HH.out⟩
theorem port_none (P : Int) (A : Option Addr) (n cap : Nat) (L : List Lr) (a : Nat) (w : World) (h : Sl 2 lrC w A n L) (hn : n ≤ 16) (hcap : n ≤ cap) (hf : find L a = -1) :
    Calls Try.prog 12 #[.agg #[.int .i64 P, .slice A n cap], .int .u8 (a : Int)] w fun e w' => e = .returned (.tuple #[.int .i64 0, .bool false]) ∧ Held w w' := by
  have hal : Held w (w.alloc (.cells #[.int .i64 P, .slice A n cap] 26)) := (Held.refl w).alloc _
  have hfi := Lib.hid (find_any A n cap L a _ (h.held hal) (by omega) hcap)
  have HF := Lib.hid hf
  have HA := Lib.hid hal
  clear hf h hal
  go_enter Try.func12, Try.ntmps12
  go_wp2_with fail
  refine hfi.out.mono ?_
  rintro e w1 ⟨rfl, h1⟩
  rw [HF.out]
  have HH := Lib.hid (HA.out.step h1)
  clear h1
  go_wp2
  go_ret2
  exact ⟨rfl, HH.out⟩
/-- The table behind a frame of a sender. -/
def learnL (L : List Lr) (a : Nat) (p : Int) : List Lr := (⟨a, p⟩ :: L.filter fun x => decide (¬ x.a = a)).take 16
theorem filter_none {L : List Lr} {a : Nat} (h : ∀ x ∈ L, ¬ x.a = a) : (L.filter fun x => decide (¬ x.a = a)) = L := by
  rw [List.filter_eq_self]
  intro x hx; simpa using h x hx
theorem filter_cut {P : Int} {L : List Lr} (hv : VS P L) {k : Nat} (hk : k < L.length) : (L.filter fun x => decide (¬ x.a = L[k].a)) = L.take k ++ L.drop (k + 1) := by
  have hp := List.pairwise_iff_getElem.1 hv.dis
  have e : L = L.take k ++ (L[k] :: L.drop (k + 1)) := by rw [← List.drop_eq_getElem_cons hk, List.take_append_drop]
  obtain ⟨a, ha⟩ : ∃ a, a = L[k].a := ⟨_, rfl⟩
  rw [← ha]
  conv => lhs; rw [e]
  rw [List.filter_append, List.filter_cons, if_neg (by simp [ha]), filter_none, filter_none]
  · intro x hx
    obtain ⟨j, hj, rfl⟩ := List.mem_iff_getElem.1 hx
    rw [List.length_drop] at hj
    rw [List.getElem_drop, ha]
    exact fun e1 => hp k (k + 1 + j) hk (by omega) (by omega) e1.symm
  · intro x hx
    obtain ⟨j, hj, rfl⟩ := List.mem_iff_getElem.1 hx
    rw [List.length_take] at hj
    rw [List.getElem_take, ha]
    exact hp j k (by omega) hk (by omega)
/-- The call's own table, turned: what stays. -/
def Tab (W w : World) (v : Value) (M : List Lr) (r : Ending) (w' : World) : Prop := ∃ v', r = .returned v' ∧ Own 35 2 lrC W.heap.size w' v' M ∧ Held W w' ∧ Sg.Kp w v w' v'
theorem Tab.mk {W w w' : World} {M : List Lr} {v v' : Value} (h : Own 35 2 lrC W.heap.size w' v' M) (hh : Held W w') (hk : Sg.Kp w v w' v') : Tab W w v M (.returned v') w' := ⟨v', rfl, h, hh, hk⟩
theorem del_tab (W w : World) (hW : Held W w) (v : Value) (L : List Lr) (i j : Nat) (h : Own 35 2 lrC W.heap.size w v L) (hij : i < j) (hj : j ≤ L.length) (hl : L.length ≤ 100) :
    Calls Try.prog 21 #[v, .int .i64 i, .int .i64 j] w (Tab W w v (L.take i ++ L.drop j)) := by
  refine (SlcLr.delete_any lrC_len lrC_one _ v L i j w h hij hj (by omega)).mono ?_
  rintro r w' ⟨v', rfl, ho, hg, hb⟩
  exact Tab.mk ho (held_grown hW h hg) (Sg.Kp.grown hg hb)
theorem ins_tab (W w : World) (hW : Held W w) (v : Value) (L : List Lr) (x : Lr) (h : Own 35 2 lrC W.heap.size w v L) (hl : L.length ≤ 100) (w1 : World) (hw1 : w1 = w.alloc (.cells #[.int .u8 (x.a : Int), .int .i64 x.p] 35)) :
    Calls Try.prog 22 #[v, .int .i64 0, .slice (some ⟨w.heap.size, 0, none⟩) 1 1] w1 (Tab W w v (x :: L)) := by
  subst hw1
  have h2 : Own 35 2 lrC W.heap.size (w.alloc (.cells #[.int .u8 (x.a : Int), .int .i64 x.p] 35)) v L := Own.held h ((Held.refl w).alloc _)
  have := SlcLr.insert_any lrC_len lrC_one W.heap.size v L 0 x _ h2 (Nat.zero_le _) (by omega) (by simp; exact Nat.le_succ_of_le hW.le) w.heap.size (heap_alloc_new w _) (fun e => by
    have := (World.ownsRow.lt h _ e).2
    omega)
  refine this.mono ?_
  rintro r w' ⟨v', rfl, ho, hg, hb⟩
  exact Tab.mk ho (held_grown (hW.alloc _) h2 hg) ((Sg.Kp.held v ((Held.refl w).alloc _)).trans (Sg.Kp.grown hg hb))
theorem own_shape {W w : World} {v : Value} {L : List Lr} (h : Own 35 2 lrC W.heap.size w v L) : ∃ A cap, v = .slice A L.length cap ∧ L.length ≤ cap ∧ Sl 2 lrC w A L.length L := by
  obtain ⟨A, cap, rfl, hc, _⟩ := h.shape
  exact ⟨A, cap, rfl, hc, (h.reads lrC_len).1⟩
theorem learn_cut {L : List Lr} {a : Nat} {p : Int} {M : List Lr} (hM : (L.filter fun x => decide (¬ x.a = a)) = M) (hl : M.length ≤ 15) : learnL L a p = ⟨a, p⟩ :: M := by
  unfold learnL; rw [hM, List.take_of_length_le (by simp; omega)]
set_option maxHeartbeats 1000000 in
theorem learn_any (W w : World) (hW : Held W w) (v : Value) (P : Int) (L : List Lr) (a : Nat) (p : Int) (h : Own 35 2 lrC W.heap.size w v L) (hv : VS P L) :
    Calls Try.prog 18 #[v, .int .u8 (a : Int), .int .i64 p] w (Tab W w v (learnL L a p)) := by
  have hl16 := hv.len
  obtain ⟨A, cap, rfl, hcap, hsl⟩ := own_shape h
  have hfi := Lib.hid (find_any A L.length cap L a w hsl (by omega) hcap)
  have HO := Lib.hid (And.intro h hW)
  have HV := Lib.hid hv
  have hsp := find_spec L a
  clear h hW hv hsl
  rcases hsp with ⟨hf, hno⟩ | ⟨k, hk, hf, hka, _⟩
  · have HF := Lib.hid hf
    have HE := Lib.hid (filter_none hno)
    clear hf hno
    by_cases h16 : L.length = 16
    · have HR : Hid ((({ a := a, p := p } : Lr) :: L).take 16 ++ (({ a := a, p := p } : Lr) :: L).drop 17 = learnL L a p) := by
        show _ = _
        unfold learnL
        rw [HE.out, List.drop_of_length_le (by simp; omega), List.append_nil]
      have H16 := Lib.hid h16
      clear h16
      go_enter Try.func18, Try.ntmps18
      go_wp2_with fail
      refine hfi.out.mono ?_
      rintro e w1 ⟨rfl, h1⟩
      rw [HF.out]
      have hins := Lib.hid (ins_tab W w1 (HO.out.2.step h1) _ L ⟨a, p⟩ (Own.held HO.out.1 h1) (by omega) _ rfl)
      have HK1 := Lib.hid (Sg.Kp.held (.slice A L.length cap) h1)
      clear h1
      go_wp2_with fail
      refine hins.out.mono ?_
      rintro e w2 ⟨v2, rfl, ho2, h2, hk2⟩
      have HK2 := Lib.hid (HK1.out.trans hk2)
      clear hk2
      obtain ⟨A2, cap2, rfl, hcap2, _⟩ := own_shape ho2
      have hdel := Lib.hid (del_tab W w2 h2 _ (⟨a, p⟩ :: L) 16 17 ho2 (by omega) (by have := H16.out; simp; omega) (by have := H16.out; simp; omega))
      have hl17 : (({ a := a, p := p } : Lr) :: L).length = 17 := by have := H16.out; simp; omega
      rw [hl17] at hdel HK2 ⊢
      clear ho2 h2 hl17 hcap2
      go_wp2_with (go_at_call 21; refine hdel.out.mono ?_; rintro e w3 ⟨v3, rfl, ho3, h3, hk3⟩)
      go_ret
      exact Tab.mk (by rw [← HR.out]; exact ho3) h3 (HK2.out.trans hk3)
    · have HR : Hid ((({ a := a, p := p } : Lr) :: L) = learnL L a p) := (learn_cut HE.out (by omega)).symm
      go_enter Try.func18, Try.ntmps18
      go_wp2_with fail
      refine hfi.out.mono ?_
      rintro e w1 ⟨rfl, h1⟩
      rw [HF.out]
      have hins := Lib.hid (ins_tab W w1 (HO.out.2.step h1) _ L ⟨a, p⟩ (Own.held HO.out.1 h1) (by omega) _ rfl)
      have HK1 := Lib.hid (Sg.Kp.held (.slice A L.length cap) h1)
      clear h1
      go_wp2_with fail
      refine hins.out.mono ?_
      rintro e w2 ⟨v2, rfl, ho2, h2, hk2⟩
      have HK2 := Lib.hid (HK1.out.trans hk2)
      clear hk2
      obtain ⟨A2, cap2, rfl, hcap2, _⟩ := own_shape ho2
      have HO2 := Lib.hid (And.intro ho2 h2)
      have hl17 : ((({ a := a, p := p } : Lr) :: L).length : Int) ≤ 16 := by simp; omega
      clear ho2 h2 hcap2
      go_wp2
      go_ret
      exact Tab.mk (by rw [← HR.out]; exact HO2.out.1) HO2.out.2 HK2.out
  · have HF := Lib.hid hf
    have HE := Lib.hid (filter_cut HV.out hk)
    have HR : Hid (∀ M, L.take k ++ L.drop (k + 1) = M → (({ a := a, p := p } : Lr) :: M) = learnL L a p ∧ M.length ≤ 15) := by
      intro M hM
      have hl : M.length ≤ 15 := by rw [← hM]; simp; omega
      exact ⟨(learn_cut (by rw [← hM, ← HE.out, hka]) hl).symm, hl⟩
    have hkl : (k : Int) ≤ 16 := by omega
    clear hf hka
    go_enter Try.func18, Try.ntmps18
    go_wp2_with fail
    refine hfi.out.mono ?_
    rintro e w1 ⟨rfl, h1⟩
    rw [HF.out]
    have hdel := Lib.hid (del_tab W w1 (HO.out.2.step h1) _ L k (k + 1) (Own.held HO.out.1 h1) (by omega) (by omega) (by omega))
    have hk1 : ((k + 1 : Nat) : Int) = (k : Int) + 1 := by omega
    rw [hk1] at hdel
    have HK1 := Lib.hid (Sg.Kp.held (.slice A L.length cap) h1)
    clear h1 hk1
    go_wp2_with fail
    refine hdel.out.mono ?_
    rintro e w2 ⟨v2, rfl, ho2, h2, hk2⟩
    have HK2 := Lib.hid (HK1.out.trans hk2)
    clear hk2
    obtain ⟨M, hM⟩ : ∃ M, L.take k ++ L.drop (k + 1) = M := ⟨_, rfl⟩
    rw [hM] at ho2
    obtain ⟨hR, hMl⟩ := HR.out M hM
    have HR2 := Lib.hid hR
    have hins := Lib.hid (ins_tab W w2 h2 _ M ⟨a, p⟩ ho2 (by omega) _ rfl)
    clear ho2 h2 hM hR
    go_wp2_with fail
    refine hins.out.mono ?_
    rintro e w3 ⟨v3, rfl, ho3, h3, hk3⟩
    have HK3 := Lib.hid (HK2.out.trans hk3)
    clear hk3
    obtain ⟨A3, cap3, rfl, hcap3, _⟩ := own_shape ho3
    have HO3 := Lib.hid (And.intro ho3 h3)
    have hl17 : ((({ a := a, p := p } : Lr) :: M).length : Int) ≤ 16 := by simp; omega
    clear ho3 h3 hcap3
    go_wp2
    go_ret
    exact Tab.mk (by rw [← HR2.out]; exact HO3.out.1) HO3.out.2 HK3.out
end Net
end Go.Proofs.Ytnmhmjcpiijkcaa
