/-
  Plain laws, no program in sight: a log segment is read back (chapters 19, 24).
  Contracts of the reference: u, put, Ordered (chapters 19, 24).
  The reference's Run without a script, up to 87 steps: a machine, or the empty one.
  The reference: a new memory, a reset processor, a new machine.
  The instructions that a program is made of: their list, one instruction.
-/
import Derived.Test.YtdacgdokbfcgdaaGreatW13
import Derived.Test.YtdacgdokbfcgdaaGreatW15
import Derived.Test.YtdacgdokbfcgdaaGreatW1
import Derived.Lib.QuietBelow
import Derived.Test.YtdacgdokbfcgdaaGreatW10
set_option linter.unusedVariables false
set_option linter.unusedSimpArgs false
set_option maxRecDepth 100000
namespace Go.Proofs.YtdacgdokbfcgdaaGreat
/-- An equation in a box. -/
structure Is {α : Type} (a b : α) : Prop where
  out : a = b
end Go.Proofs.YtdacgdokbfcgdaaGreat
namespace Go.Proofs.YtdacgdokbfcgdaaGreat.Enc
open Uv Lg
theorem put_inj {x y : Nat} (hx : x < 18446744073709551616) (hy : y < 18446744073709551616) {t u : List UInt8} (h : put x ++ t = put y ++ u) : x = y ∧ t = u := by
  have h1 := numR_put x hx t
  rw [h, numR_put y hy u] at h1
  injection h1 with h1 h2
  injection h2 with h2 _
  exact ⟨h1.symm, h2.symm⟩
theorem data_inj {d d' t u : List UInt8} (hd : d.length < 18446744073709551616) (hd' : d'.length < 18446744073709551616) (h : put d.length ++ (d ++ t) = put d'.length ++ (d' ++ u)) : d = d' ∧ t = u := by
  obtain ⟨h1, h2⟩ := put_inj hd hd' h
  exact List.append_inj h2 h1
/-- The encoding of an event, part by part. -/
theorem encE_1 {k n : Int} {d : List UInt8} (h : k = 1 ∨ k = 3 ∨ k = 6) : encE k n d = put k.toNat ++ put n.toNat := by unfold encE; rw [if_pos h]
theorem encE_4 {k n : Int} {d : List UInt8} (h : k = 4) : encE k n d = put k.toNat ++ (put n.toNat ++ (put d.length ++ d)) := by unfold encE; rw [if_neg (by omega), if_pos h, List.append_assoc]
theorem encE_5 {k n : Int} {d : List UInt8} (h : k = 5) : encE k n d = put k.toNat ++ (put d.length ++ d) := by unfold encE; rw [if_neg (by omega), if_neg (by omega), if_pos h]
theorem encE_2 {k n : Int} {d : List UInt8} (h : k = 2) : encE k n d = put k.toNat := by unfold encE; rw [if_neg (by omega), if_neg (by omega), if_neg (by omega)]
theorem ok_1 {k n : Int} {d : List UInt8} (h : Ev.ok k n d = true) (hk : k = 1 ∨ k = 3 ∨ k = 6) : d = [] := by
  unfold Ev.ok Ev.okE at h
  rcases hk with rfl | rfl | rfl <;> simp at h
  · exact h
  · exact h.2
  · exact h
theorem ok_2 {n : Int} {d : List UInt8} (h : Ev.ok 2 n d = true) : n = 0 ∧ d = [] := by unfold Ev.ok Ev.okE at h; simpa using h
theorem ok_5 {n : Int} {d : List UInt8} (h : Ev.ok 5 n d = true) : n = 0 := by unfold Ev.ok Ev.okE at h; simp at h; exact h.1
theorem encE_inj {k n k' n' : Int} {d d' t u : List UInt8} (hv : Ev.ok k n d = true) (hv' : Ev.ok k' n' d' = true) (hn : 0 ≤ n ∧ n ≤ 4294967295) (hn' : 0 ≤ n' ∧ n' ≤ 4294967295) (h : encE k n d ++ t = encE k' n' d' ++ u) : k = k' ∧ n = n' ∧ d = d' ∧ t = u := by
  obtain ⟨b1, b2, b3⟩ := ok_bd hv
  obtain ⟨c1, c2, c3⟩ := ok_bd hv'
  have hk : k = k' := by
    have e : ∀ (k n : Int) (d : List UInt8), ∃ r, encE k n d = put k.toNat ++ r := by
      intro k n d
      unfold encE
      split
      · exact ⟨_, rfl⟩
      · split
        · exact ⟨_, List.append_assoc _ _ _⟩
        · split
          · exact ⟨_, rfl⟩
          · exact ⟨[], (List.append_nil _).symm⟩
    obtain ⟨r, hr⟩ := e k n d
    obtain ⟨r', hr'⟩ := e k' n' d'
    rw [hr, hr', List.append_assoc, List.append_assoc] at h
    have := (put_inj (by omega) (by omega) h).1
    omega
  subst hk
  rcases (by omega : (k = 1 ∨ k = 3 ∨ k = 6) ∨ k = 2 ∨ k = 4 ∨ k = 5) with hk | hk | hk | hk
  · rw [encE_1 hk, encE_1 hk, List.append_assoc, List.append_assoc] at h
    obtain ⟨_, h⟩ := put_inj (by omega) (by omega) h
    obtain ⟨h1, h2⟩ := put_inj (by omega) (by omega) h
    exact ⟨rfl, by omega, by rw [ok_1 hv hk, ok_1 hv' hk], h2⟩
  · subst hk
    rw [encE_2 rfl, encE_2 rfl] at h
    obtain ⟨_, h⟩ := put_inj (by omega) (by omega) h
    exact ⟨rfl, by rw [(ok_2 hv).1, (ok_2 hv').1], by rw [(ok_2 hv).2, (ok_2 hv').2], h⟩
  · subst hk
    rw [encE_4 rfl, encE_4 rfl] at h
    simp only [List.append_assoc] at h
    obtain ⟨_, h⟩ := put_inj (by omega) (by omega) h
    obtain ⟨h1, h⟩ := put_inj (by omega) (by omega) h
    obtain ⟨h2, h3⟩ := data_inj (by omega) (by omega) h
    exact ⟨rfl, by omega, h2, h3⟩
  · subst hk
    rw [encE_5 rfl, encE_5 rfl] at h
    simp only [List.append_assoc] at h
    obtain ⟨_, h⟩ := put_inj (by omega) (by omega) h
    obtain ⟨h2, h3⟩ := data_inj (by omega) (by omega) h
    exact ⟨rfl, by rw [ok_5 hv, ok_5 hv'], h2, h3⟩
/-- The positions rise. -/
def asc : Nat → List Ent → Prop
  | _, [] => True
  | f, x :: L => f ≤ x.t ∧ asc x.t L
theorem asc_of : ∀ (L : List Ent) (f : Nat), (∀ q (h : q < L.length), lastT f (L.take q) ≤ L[q].t) → asc f L
  | [], _, _ => trivial
  | x :: L, f, h => by
    have h0 : f ≤ x.t := h 0 (by simp)
    refine ⟨h0, asc_of L x.t fun q hq => ?_⟩
    have := h (q + 1) (by simp; omega)
    simp only [List.take_succ_cons, List.getElem_cons_succ] at this
    have e : lastT f (x :: L.take q) = lastT x.t (L.take q) := by
      cases hL : L.take q with
      | nil => simp [lastT]
      | cons y M => simp [lastT, List.getLast?_cons]
    rw [e] at this
    exact this
theorem ent_ext {x y : Ent} (h1 : x.t = y.t) (h2 : x.k = y.k) (h3 : x.n = y.n) (h4 : x.d.data.toList = y.d.data.toList) : x = y := by
  obtain ⟨a, b, c, d⟩ := x
  obtain ⟨a', b', c', d'⟩ := y
  simp only at h1 h2 h3 h4
  subst h1 h2 h3
  congr 1
  cases d; cases d'; simp only at h4; congr 1; exact Array.toList_inj.1 h4
theorem encF_inj : ∀ (L M : List Ent) (f : Nat) (t u : List UInt8), L.length = M.length → (∀ x ∈ L, EntOK x ∧ okX x = true) → (∀ x ∈ M, EntOK x ∧ okX x = true) → asc f L → asc f M → encF f L ++ t = encF f M ++ u → L = M ∧ t = u
  | [], [], _, _, _, _, _, _, _, _, h => ⟨rfl, h⟩
  | [], _ :: _, _, _, _, hl, _, _, _, _, _ => by simp at hl
  | _ :: _, [], _, _, _, hl, _, _, _, _, _ => by simp at hl
  | x :: L, y :: M, f, t, u, hl, hx, hy, ha, hb, h => by
    obtain ⟨x1, x2⟩ := hx x (by simp)
    obtain ⟨y1, y2⟩ := hy y (by simp)
    have hxt := x1.t
    have hyt := y1.t
    simp only [encF, List.append_assoc] at h
    obtain ⟨h1, h⟩ := put_inj (by omega) (by omega) h
    obtain ⟨h2, h3, h4, h⟩ := encE_inj x2 y2 ⟨x1.n1, x1.n2⟩ ⟨y1.n1, y1.n2⟩ h
    have hf1 := ha.1
    have hf2 := hb.1
    have hxy : x = y := ent_ext (by omega) h2 h3 h4
    subst hxy
    obtain ⟨h5, h6⟩ := encF_inj L M x.t t u (by simpa using hl) (fun z hz => hx z (by simp [hz])) (fun z hz => hy z (by simp [hz])) ha.2 hb.2 h
    exact ⟨by rw [h5], h6⟩
/-- What can be encoded. -/
structure Encd (L : List Ent) (f : Nat) (s : List UInt8) : Prop where
  len : L.length ≤ 400
  ok : ∀ x ∈ L, okX x = true
  ord : Enc.ord L = true
  early : Enc.early L f = false
  eq : s = put L.length ++ encF f L
  le : s.length ≤ 65536
theorem encode_ok {L : List Ent} {f : Nat} {s : List UInt8} (h : encode L f = (s, 0)) : Encd L f s := by
  unfold encode at h
  split at h
  · injection h with _ h; cases h
  · rename_i h1
    split at h
    · injection h with _ h; cases h
    · rename_i h2
      split at h
      · injection h with _ h; cases h
      · rename_i h3
        split at h
        · injection h with _ h; cases h
        · rename_i h4
          injection h with h _
          have h2 : L.all okX = true := by cases e : L.all okX <;> simp_all
          rw [List.all_eq_true] at h2
          simp only [Bool.or_eq_true, Bool.not_eq_true', not_or, Bool.not_eq_false, Bool.not_eq_true] at h3
          exact ⟨by omega, h2, h3.1, h3.2, h.symm, by rw [← h]; omega⟩
theorem Encd.asc {L : List Ent} {f : Nat} {s : List UInt8} (h : Encd L f s) : asc f L := asc_of L f fun q hq => last_le h.ord h.early hq
theorem encode_inj {L M : List Ent} {f : Nat} {s : List UInt8} (hx : ∀ x ∈ L, EntOK x) (hy : ∀ x ∈ M, EntOK x) (h1 : encode L f = (s, 0)) (h2 : encode M f = (s, 0)) : L = M := by
  have a := encode_ok h1
  have b := encode_ok h2
  have h := a.eq.symm.trans b.eq
  have hl := a.len
  have hm := b.len
  obtain ⟨h3, h4⟩ := put_inj (by omega) (by omega) h
  exact (encF_inj L M f [] [] h3 (fun x hx' => ⟨hx x hx', a.ok x hx'⟩) (fun x hx' => ⟨hy x hx', b.ok x hx'⟩) a.asc b.asc (by rw [List.append_nil, List.append_nil]; exact h4)).1
/-- What a string of bytes is decoded to. -/
def Dec (s : List UInt8) (f : Nat) (L : List Ent) : Prop := (∀ x ∈ L, EntOK x) ∧ encode L f = (s, 0)
open Classical in
noncomputable def decL (s : List UInt8) (f : Nat) : List Ent × Int := if h : ∃ L, Dec s f L then (Classical.choose h, 0) else ([], 1900)
theorem decL_of {s : List UInt8} {f : Nat} {L : List Ent} (h : Dec s f L) : decL s f = (L, 0) := by
  have he : ∃ L, Dec s f L := ⟨L, h⟩
  unfold decL
  rw [dif_pos he]
  have h2 := Classical.choose_spec he
  rw [encode_inj h2.1 h.1 h2.2 h.2]
theorem decL_no {s : List UInt8} {f : Nat} (h : ∀ L, ¬ Dec s f L) : decL s f = ([], 1900) := by
  unfold decL
  rw [dif_neg (by rintro ⟨L, hL⟩; exact h L hL)]
/-- How far a reader has come: i of c entries, whatever segment it is. -/
def Fol (s : List UInt8) (f c i : Nat) (L : List Ent) (rest : List UInt8) (at_ : Nat) : Prop :=
  ∀ M, Dec s f M → M.length = c ∧ M.take i = L ∧ rest = encF at_ (M.drop i) ∧ at_ = lastT f L
theorem Fol.start {s rest : List UInt8} {f c : Nat} (h : numR s false = (c, rest, false)) : Fol s f c 0 [] rest f := by
  intro M hM
  have a := encode_ok hM.2
  have hl := a.len
  have h1 := numR_put M.length (by omega) (encF f M)
  rw [← a.eq, h] at h1
  injection h1 with h1 h2
  injection h2 with h2 _
  exact ⟨h1.symm, rfl, h2, rfl⟩
theorem Fol.bad {s rest : List UInt8} {f c : Nat} (h : numR s false = (c, rest, true)) : ∀ M, ¬ Dec s f M := by
  intro M hM
  have a := encode_ok hM.2
  have hl := a.len
  have h1 := numR_put M.length (by omega) (encF f M)
  rw [← a.eq, h] at h1
  injection h1 with _ h2
  injection h2 with _ h2
  cases h2
theorem Fol.many {s rest : List UInt8} {f c : Nat} {b : Bool} (h : numR s false = (c, rest, b)) (hc : 400 < c) : ∀ M, ¬ Dec s f M := by
  intro M hM
  cases b
  · have h1 := (Fol.start (f := f) h M hM).1
    have a := encode_ok hM.2
    have := a.len
    omega
  · exact Fol.bad h M hM
/-- The next entry, as it stands in the bytes. -/
theorem Fol.next {s rest : List UInt8} {f c i at_ : Nat} {L : List Ent} (h : Fol s f c i L rest at_) (hi : i < c) {M : List Ent} (hM : Dec s f M) :
    ∃ x, M[i]? = some x ∧ EntOK x ∧ okX x = true ∧ at_ ≤ x.t ∧ rest = put (x.t - at_) ++ (encE x.k x.n x.d.data.toList ++ encF x.t (M.drop (i + 1))) := by
  obtain ⟨h1, h2, h3, h4⟩ := h M hM
  have a := encode_ok hM.2
  have hiM : i < M.length := by omega
  have hle := last_le a.ord a.early hiM
  rw [h2, ← h4] at hle
  refine ⟨M[i], List.getElem?_eq_getElem hiM, hM.1 _ (List.getElem_mem hiM), a.ok _ (List.getElem_mem hiM), hle, ?_⟩
  rw [h3, List.drop_eq_getElem_cons hiM]
  simp only [encF, List.append_assoc]
theorem Fol.step {s rest rest' : List UInt8} {f c i at_ : Nat} {L : List Ent} {y : Ent} (h : Fol s f c i L rest at_) (hi : i < c) (hy : ∀ x t, EntOK x → okX x = true → at_ ≤ x.t → rest = put (x.t - at_) ++ (encE x.k x.n x.d.data.toList ++ t) → y = x ∧ rest' = t) : Fol s f c (i + 1) (L ++ [y]) rest' y.t := by
  intro M hM
  obtain ⟨x, hx, x1, x2, x3, x4⟩ := h.next hi hM
  obtain ⟨h1, h2, h3, h4⟩ := h M hM
  obtain ⟨rfl, h5⟩ := hy x _ x1 x2 x3 x4
  obtain ⟨hiM, hxe⟩ := List.getElem?_eq_some_iff.1 hx
  refine ⟨h1, by rw [List.take_succ_eq_append_getElem hiM, h2, hxe], h5, by rw [lastT_snoc]⟩
theorem Fol.stop {s rest : List UInt8} {f c i at_ : Nat} {L : List Ent} (h : Fol s f c i L rest at_) (hi : i < c) (hno : ∀ x t, EntOK x → okX x = true → at_ ≤ x.t → rest = put (x.t - at_) ++ (encE x.k x.n x.d.data.toList ++ t) → False) : ∀ M, ¬ Dec s f M := by
  intro M hM
  obtain ⟨x, hx, x1, x2, x3, x4⟩ := h.next hi hM
  exact hno x _ x1 x2 x3 x4
/-- At the end: what has been read is it, or nothing is. -/
theorem Fol.done {s rest : List UInt8} {f c at_ : Nat} {L : List Ent} (h : Fol s f c c L rest at_) (hx : ∀ x ∈ L, EntOK x) : (encode L f = (s, 0) → decL s f = (L, 0)) ∧ (encode L f ≠ (s, 0) → decL s f = ([], 1900)) := by
  refine ⟨fun he => decL_of ⟨hx, he⟩, fun hne => decL_no fun M hM => ?_⟩
  obtain ⟨h1, h2, _, _⟩ := h M hM
  rw [List.take_of_length_le (by omega)] at h2
  subst h2
  exact hne hM.2
theorem Fol.rest {s rest : List UInt8} {f c at_ : Nat} {L : List Ent} (h : Fol s f c c L rest at_) (hr : rest ≠ []) : ∀ M, ¬ Dec s f M := by
  intro M hM
  obtain ⟨h1, _, h3, _⟩ := h M hM
  rw [List.drop_of_length_le (by omega)] at h3
  exact hr h3
end Go.Proofs.YtdacgdokbfcgdaaGreat.Enc

namespace Go.Proofs.YtdacgdokbfcgdaaGreat
open Go.RowKit Go.BigFrame Go.Sort Go.Lib
namespace Enc
open Lgc Lg Strs
theorem u_any (x : Nat) (hx : (x : Int) ≤ 18446744073709551615) (w : World) : Calls Tryz.prog 45 #[.int .u64 (x : Int)] w (MakesS (Uv.put x) w) := by
  have HP := Lib.hid (put_ref_any x hx w)
  go_enter Tryz.func45, Tryz.ntmps45
  go_wp2_with (go_at_call 30; refine HP.out.mono ?_; rintro e w1 ⟨rfl, h1⟩)
  go_ret
  exact ⟨rfl, h1⟩
set_option maxHeartbeats 2000000 in
theorem putr_any (k n : Nat) (d : ByteArray) (hk : 1 ≤ k) (hk6 : k ≤ 6) (hn : n ≤ 4294967295) (hd : d.size ≤ 128) (w : World) :
    Calls Tryz.prog 31 #[.agg #[.int .i64 (k : Int), .int .u32 (n : Int), .string d]] w (MakesS (encE k n d.data.toList) w) := by
  have HB := Lib.hid fun w' (h : Held (w.alloc (.cells #[.int .i64 (k : Int), .int .u32 (n : Int), .string d] 66)) w') => And.intro (h.cell (p := ⟨w.heap.size, 0, none⟩) (v := .int .i64 (k : Int)) (by simp)) (And.intro (h.cell (p := ⟨w.heap.size, 1, none⟩) (v := .int .u32 (n : Int)) (by simp)) (h.cell (p := ⟨w.heap.size, 2, none⟩) (v := .string d) (by simp)))
  have HA := Lib.hid ((Held.refl w).alloc (.cells #[.int .i64 (k : Int), .int .u32 (n : Int), .string d] 66))
  have HU := Lib.hid (fun w => u_any k (by omega) w)
  have HN := Lib.hid (fun w => u_any n (by omega) w)
  have HD := Lib.hid (fun w => u_any d.size (by omega) w)
  have hl1 := Uv.put_len k (by omega)
  have hl2 := Uv.put_len n (by omega)
  have hl3 := Uv.put_len d.size (by omega)
  have hdl : d.data.toList.length = d.size := len_eq d
  have E1 : Hid (k = 1 ∨ k = 3 ∨ k = 6 → encE k n d.data.toList = Uv.put k ++ Uv.put n) := fun h => encE_1 (k := (k : Int)) (n := (n : Int)) (by omega)
  have E4 : Hid (k = 4 → encE k n d.data.toList = Uv.put k ++ Uv.put n ++ (Uv.put d.size ++ d.data.toList)) := fun h => by rw [← hdl, List.append_assoc]; exact encE_4 (k := (k : Int)) (n := (n : Int)) (by omega)
  have E5 : Hid (k = 5 → encE k n d.data.toList = Uv.put k ++ (Uv.put d.size ++ d.data.toList)) := fun h => by rw [← hdl]; exact encE_5 (k := (k : Int)) (n := (n : Int)) (by omega)
  have E2 : Hid (k = 2 → encE k n d.data.toList = Uv.put k) := fun h => encE_2 (k := (k : Int)) (n := (n : Int)) (by omega)
  generalize Uv.put k = a at hl1 HU E1 E2 E4 E5
  generalize Uv.put n = b at hl2 HN E1 E4
  generalize Uv.put d.size = c at hl3 HD E4 E5
  generalize encE k n d.data.toList = r at E1 E2 E4 E5
  unfold MakesS at HU HN HD
  clear hdl
  go_enter Tryz.func31, Tryz.ntmps31
  go_wp2_with fail
  refine (HU.out _).mono ?_
  rintro e w1 ⟨rfl, h1⟩
  obtain ⟨c0, c1, c2⟩ := HB.out _ h1
  have W1 := Lib.hid (HA.out.step h1)
  have H1 := Lib.hid h1
  clear h1 HU
  have fin : Hid (∀ (s : ByteArray) (w' : World), s.data.toList = r → Held w w' → MakesS r w (.returned (.string s)) w') := fun s w' hs hw => ⟨ret_str hs, hw⟩
  have hkk : k = 1 ∨ k = 2 ∨ k = 3 ∨ k = 4 ∨ k = 5 ∨ k = 6 := by omega
  rcases hkk with rfl | rfl | rfl | rfl | rfl | rfl
  · have he := E1.out (by omega)
    clear HB H1 E1 E2 E4 E5 HD
    have HE := Lib.hid he
    clear he
    go_wp2_with fail
    refine (HN.out _).mono ?_
    rintro e w2 ⟨rfl, h2⟩
    go_wp2
    go_ret
    exact fin.out _ _ (by rw [HE.out]; simp) (W1.out.step h2)
  · have he := E2.out rfl
    clear HB H1 E1 E2 E4 E5 HD HN
    have HE := Lib.hid he
    clear he
    go_wp2
    go_ret
    exact fin.out _ _ (by rw [HE.out]) W1.out
  · have he := E1.out (by omega)
    clear HB H1 E1 E2 E4 E5 HD
    have HE := Lib.hid he
    clear he
    go_wp2_with fail
    refine (HN.out _).mono ?_
    rintro e w2 ⟨rfl, h2⟩
    go_wp2
    go_ret
    exact fin.out _ _ (by rw [HE.out]; simp) (W1.out.step h2)
  · have he := E4.out rfl
    have HE := Lib.hid he
    have k1 := cell_regrown c1
    have k2 := cell_regrown c2
    have cA := Lib.hid fun dd os => Calls.regrown_of (d := dd) (os := os) (HN.out (grow (redrawn w1 dd) os))
    have cB := Lib.hid fun dd os => Calls.regrown_of (d := dd) (os := os) (HD.out (grow (redrawn w1 dd) os))
    clear he HB H1 E1 E2 E4 E5 c1 c2 HN HD
    go_wp2
    refine wp_region_quiet_below (by kernel_rfl) (by kernel_rfl) ?_
    repeat (go_big_quiet_step (first | (go_at_call 45; with_reducible exact cA.out _ _) | (go_at_call 45; with_reducible exact cB.out _ _)))
    refine wpQuiet_nil ?_
    intro w5 hw'
    obtain ⟨⟨dq, osq⟩, hw''⟩ := hw'
    have h5 : Held w1 w5 := by rw [hw'']; exact below_regrown w1 dq osq
    clear hw'' k1 k2 cA cB c0
    go_wp2
    go_ret
    exact fin.out _ _ (by rw [HE.out]; simp) (W1.out.step h5)
  · have he := E5.out rfl
    have HE := Lib.hid he
    have k1 := cell_regrown c1
    have k2 := cell_regrown c2
    have cA := Lib.hid fun dd os => Calls.regrown_of (d := dd) (os := os) (HN.out (grow (redrawn w1 dd) os))
    have cB := Lib.hid fun dd os => Calls.regrown_of (d := dd) (os := os) (HD.out (grow (redrawn w1 dd) os))
    clear he HB H1 E1 E2 E4 E5 c1 c2 HN HD
    go_wp2
    refine wp_region_quiet_below (by kernel_rfl) (by kernel_rfl) ?_
    repeat (go_big_quiet_step (first | (go_at_call 45; with_reducible exact cA.out _ _) | (go_at_call 45; with_reducible exact cB.out _ _)))
    refine wpQuiet_nil ?_
    intro w5 hw'
    obtain ⟨⟨dq, osq⟩, hw''⟩ := hw'
    have h5 : Held w1 w5 := by rw [hw'']; exact below_regrown w1 dq osq
    clear hw'' k1 k2 cA cB c0
    go_wp2
    go_ret
    exact fin.out _ _ (by rw [HE.out]; simp) (W1.out.step h5)
  · have he := E1.out (by omega)
    clear HB H1 E1 E2 E4 E5 HD
    have HE := Lib.hid he
    clear he
    go_wp2_with fail
    refine (HN.out _).mono ?_
    rintro e w2 ⟨rfl, h2⟩
    go_wp2
    go_ret
    exact fin.out _ _ (by rw [HE.out]; simp) (W1.out.step h2)
set_option maxHeartbeats 2000000 in
theorem ordr_any (A : Option Addr) (n cap : Nat) (L : List Ent) (w : World) (h : Sl 4 entC w A n L) (hn : n ≤ 1000000) (hx : ∀ x ∈ L, EntOK x) :
    Calls Tryz.prog 29 #[.slice A n cap] w fun e w' => e = .returned (.bool (ord L)) ∧ Held w w' := by
  have HS := Lib.hid h
  have HX := Lib.hid hx
  have HL := Lib.hid h.1
  clear h hx
  go_enter Tryz.func29, Tryz.ntmps29
  go_wp2
  go_loopw [3] (fun i wr => ∃ q i1 : Nat, i = .int .i64 (i1 : Int) ∧ i1 = q + 1 ∧ (q = 0 ∨ q + 1 ≤ n) ∧ ordTo L q = true ∧ Held w wr) (fun i _ => n - (RowKit.intOf i).toNat)
  case atStart => exact ⟨0, 1, rfl, rfl, .inl rfl, rfl, Held.refl _⟩
  case round =>
    obtain ⟨q, i1, rfl, hi, hq, ho, hh⟩ := hrel
    have HO := Lib.hid ho
    have HH := Lib.hid hh
    have HI : Is i1 (q + 1) := ⟨hi⟩
    clear ho
    by_cases hlt : q + 1 < n
    · obtain ⟨b, off, x, rfl, hb, hx1, hc1⟩ := HS.out.at_ hh (k := q) (by omega)
      obtain ⟨b', off', y, he, _, hy1, hc2⟩ := HS.out.at_ hh (k := i1) (by omega)
      injection he with he
      injection he with hb1 ho1
      subst hb1 ho1
      have x0 := hc1 0 _ rfl
      have x1 := hc1 1 _ rfl
      have y0 := hc2 0 _ rfl
      rw [Nat.add_zero] at x0 y0
      clear hc1 hc2
      have z1 : (0 : Int) ≤ i1 := by omega
      have z2 : (i1 : Int) < n := by omega
      have z3 : (0 : Int) ≤ q := by omega
      have z4 : (q : Int) < n := by omega
      have z5 : IntKind.i64.wrap ((i1 : Int) - 1) = (q : Int) := by rw [IntWalk.i64_in _ (by omega)]; omega
      have z6 : (i1 : Int) - 1 = q := by omega
      have hxe : L[q]'(by have := HL.out; omega) = x := by rw [List.getElem?_eq_getElem (by have := HL.out; omega)] at hx1; injection hx1
      have hye : L[q + 1]'(by have := HL.out; omega) = y := by rw [hi, List.getElem?_eq_getElem (by have := HL.out; omega)] at hy1; injection hy1
      have hn1 := ordTo_next (L := L) (k := q) (by have := HL.out; omega)
      rw [hxe, hye, HO.out] at hn1
      have HNX := Lib.hid hn1
      have k0 := cell_regrown x0
      have k1 := cell_regrown x1
      have k2 := cell_regrown y0
      clear hx1 hy1 hxe hye hn1 hq hb hh hi
      rcases Nat.lt_trichotomy y.t x.t with ht | ht | ht
      · have hno : Hid (ord L = false) := ordTo_no (j := q + 1) (by rw [HNX.out]; simp [adj, ht]) (by have := HL.out; omega)
        have t1 : decide ((y.t : Int) < x.t) = true := decide_eq_true (by omega)
        have t2 : decide (y.t < x.t) = true := decide_eq_true ht
        clear x0 x1 y0
        go_upto_region 4 with fail
        refine wp_region_quiet_below (by kernel_rfl) (by kernel_rfl) ?_
        repeat (go_big_quiet_step (fail))
        refine wpQuiet_nil ?_
        intro _ hw'
        obtain ⟨⟨dq, osq⟩, hw''⟩ := hw'
        subst hw''
        go_wp2
        go_ret
        exact ⟨by rw [hno.out]; rfl, HH.out.step (below_regrown wr dq osq)⟩
      · have t1 : ((y.t : Int) == x.t) = true := by simp [ht]
        have t2 : decide (y.t < x.t) = false := by simp; omega
        have t3 : decide ((y.t : Int) < x.t) = false := by simp; omega
        by_cases hk : x.k = 1
        · have hno : Hid (ord L = false) := ordTo_no (j := q + 1) (by rw [HNX.out]; simp [adj, ht, hk]) (by have := HL.out; omega)
          have t4 : (x.k == 1) = true := by simp [hk]
          clear ht hk x0 x1 y0
          go_upto_region 4 with fail
          refine wp_region_quiet_below (by kernel_rfl) (by kernel_rfl) ?_
          repeat (go_big_quiet_step (fail))
          refine wpQuiet_nil ?_
          intro _ hw'
          obtain ⟨⟨dq, osq⟩, hw''⟩ := hw'
          subst hw''
          go_wp2
          go_ret
          exact ⟨by rw [hno.out]; rfl, HH.out.step (below_regrown wr dq osq)⟩
        · have hyes : Hid (ordTo L (q + 1) = true) := show _ = _ by rw [HNX.out]; simp [adj, ht, hk]
          have t4 : (x.k == 1) = false := by simp [hk]
          clear ht hk x0 x1 y0
          go_upto_region 4 with fail
          refine wp_region_quiet_below (by kernel_rfl) (by kernel_rfl) ?_
          repeat (go_big_quiet_step (fail))
          refine wpQuiet_nil ?_
          intro _ hw'
          obtain ⟨⟨dq, osq⟩, hw''⟩ := hw'
          subst hw''
          go_wp2
          go_roundw
          case rel => exact ⟨q + 1, i1 + 1, by go_num, by have := HI.out; omega, .inr (by have := HI.out; omega), hyes.out, HH.out.step (below_regrown wr dq osq)⟩
          case measure => (simp [RowKit.intOf]) <;> omega
      · have hyes : Hid (ordTo L (q + 1) = true) := show _ = _ by rw [HNX.out]; simp [adj]; omega
        have t1 : ((y.t : Int) == x.t) = false := by simp; omega
        have t2 : decide (y.t < x.t) = false := by simp; omega
        have t3 : decide ((y.t : Int) < x.t) = false := by simp; omega
        clear ht x0 x1 y0
        go_upto_region 4 with fail
        refine wp_region_quiet_below (by kernel_rfl) (by kernel_rfl) ?_
        repeat (go_big_quiet_step (fail))
        refine wpQuiet_nil ?_
        intro _ hw'
        obtain ⟨⟨dq, osq⟩, hw''⟩ := hw'
        subst hw''
        go_wp2
        go_roundw
        case rel => exact ⟨q + 1, i1 + 1, by go_num, by have := HI.out; omega, .inr (by have := HI.out; omega), hyes.out, HH.out.step (below_regrown wr dq osq)⟩
        case measure => (simp [RowKit.intOf]) <;> omega
    · have hyes : Hid (ord L = true) := show _ = _ by
        unfold ord
        rw [HL.out, show n - 1 = q by omega]; exact HO.out
      have z2 : ¬ (i1 : Int) < n := by omega
      clear hh
      go_wp2
      go_ret
      exact ⟨by rw [hyes.out]; rfl, HH.out⟩
end Enc
end Go.Proofs.YtdacgdokbfcgdaaGreat

namespace Go.Proofs.YtdacgdokbfcgdaaGreat
open Go.RowKit Go.BigFrame Go.Sort Go.Lib
namespace Ma
abbrev zC : List Int := [0, 0, 0, 0, 0, 0, 0, 0, 0, 0, 0, 0, 0, 0, 0, 0, 0, 0, 0, 0, 0, 0, 0, 0, 0]
abbrev zD : Dv := ⟨⟨#[]⟩, false, 0, false, 0, 0, 0, 0, 0, 0, 0, ⟨#[]⟩, 0, 0, false, 0, false, 0, 0, 0, 0, false, false⟩
theorem zC_ok : CpuOK zC := ⟨rfl, fun n h => by
  simp only [zC, List.mem_cons, List.not_mem_nil, or_false] at h
  have h0 : n = 0 := by omega
  subst h0
  exact ⟨by decide, by decide⟩⟩
theorem zD_ok : DvOK zD := ⟨⟨by decide, by decide⟩, ⟨by decide, by decide⟩, ⟨by decide, by decide⟩, ⟨by decide, by decide⟩, ⟨by decide, by decide⟩, ⟨by decide, by decide⟩, ⟨by decide, by decide⟩, ⟨by decide, by decide⟩, ⟨by decide, by decide⟩, ⟨by decide, by decide⟩, ⟨by decide, by decide⟩, ⟨by decide, by decide⟩, ⟨by decide, by decide⟩, ⟨by decide, by decide⟩, ⟨by decide, by decide⟩, by decide, by decide⟩
theorem res_cttt {fn : Func} {tmps : Array Value} {w : World} {a b k l m : Nat} {t : TypeId} {v : Value} (hr : fn.results = #[.cell a t, .tmp k, .tmp l, .tmp m]) (ha : tmps.getD a undef = .pointer (some ⟨b, 0, none⟩)) (hl : (loadVar t ⟨b, 0, none⟩).run Tryz.prog w = .ok v w) : (results fn tmps).run Tryz.prog w = .ok (.tuple #[v, tmps.getD k undef, tmps.getD l undef, tmps.getD m undef]) w := by
  unfold results
  rw [hr]
  simp only [List.mapM_toArray, List.mapM_cons, List.mapM_nil, ha, asAddr, pure_bind, Sem.run_bind, Sem.run_map, hl, Result.andThen_ok, Sem.run_pure, map_pure]
  rfl
theorem ord_nil (w : World) : Calls Tryz.prog 29 #[.slice none 0 0] w fun e w' => e = .returned (.bool true) ∧ Held w w' :=
  Enc.ordr_any none 0 0 [] w ⟨rfl, .inl rfl⟩ (by decide) (fun x h => by cases h)
def cntAt (b : Nat) (w : World) : Nat := match w.cell? ⟨b, 46, none⟩ with | some (.int _ z) => z.toNat | _ => 0
theorem cntAt_of {b : Nat} {w : World} {k : IntKind} {z : Int} (h : w.cell? ⟨b, 46, none⟩ = some (.int k z)) : cntAt b w = z.toNat := by unfold cntAt; rw [h]
def RunTo (w : World) (e : Ending) (w' : World) : Prop :=
  ∃ (C' : List Int) (A : Option Addr) (n cap : Nat) (d' : Dv) (M' : List Int) (v1 v2 v3 : Value), e = .returned (.tuple #[macV C' (.slice A n cap) d', v1, v2, v3]) ∧ RcS n C' M' ∧ DvOK d' ∧ d'.cnt ≤ 200 ∧ Own 40 1 uC w.heap.size w' (.slice A n cap) M' ∧ Held w w'
set_option maxHeartbeats 16000000 in
theorem run_any (C : List Int) (A : Option Addr) (cap : Nat) (d : Dv) (M : List Int) (hC : CpuOK C) (hd : DvOK d) (hcn : d.cnt = 0) (hM : MemOK M) (w : World) (h : Sl 1 uC w A 256 M) :
    Calls Tryz.prog 39 #[macV C (.slice A 256 cap) d, .slice none 0 0, .int .u64 87] w (RunTo w) := by
  have HCL := Lib.hid hC.len
  have HSZ : Is (mcA C (.slice A 256 cap) d []).size (49 + ([] : List Value).length) := ⟨mc_size hC.len⟩
  have HMA := Lib.hid fun w => may_any C A cap d hC hd w
  have HO := Lib.hid fun (w' : World) (h' : Held w w') => own7_any C A 256 cap d M hC.len (by decide) w' (h.held h')
  have HON := Lib.hid fun w => ord_nil w
  have M0 := Lib.hid (((Mem.start w).allocF (b := w.heap.size) rfl (mcA C (.slice A 256 cap) d []) 57).allocF (b := w.heap.size + 1) (by simp) z49 57)
  have HB := Lib.hid (And.intro hC (And.intro hd (And.intro hcn hM)))
  have HZ := Lib.hid fun (w' : World) (h' : Held w w') (hm : w'.heap[w.heap.size + 1]? = some (.cells z49 57 (0, 0))) (v1 v2 v3 : Value) => (show RunTo w (.returned (.tuple #[.agg z49, v1, v2, v3])) w' from ⟨zC, none, 0, 0, zD, [], v1, v2, v3, rfl, ⟨.inr rfl, zC_ok, fun h => by cases h⟩, zD_ok, by decide, Own.nil w', h'⟩)
  have HRZ := Lib.hid fun (w' : World) (hm : w'.heap[w.heap.size + 1]? = some (.cells z49 57 (0, 0))) => load_mac (cs := z49) rfl hm
  clear hC hd hM h
  go_enter Tryz.func39, Tryz.ntmps39
  go_wp2_with (show wpList _ _ _ ((⟨_, Op.load 57 _, _, _, _, _⟩ : Oper) :: _) _ _; refine Mem.go_loadAll 57 rfl rfl rfl 1 M0.out rfl uMac (by rw [mc_size HCL.out]; exact sMac) ?_)
  refine (HMA.out _).mono ?_
  rintro e w3 ⟨b, rfl, h3⟩
  have M3 := Lib.hid (M0.out.keep h3)
  clear h3
  have x46 := M3.out.cell 1 rfl 46 (mc_dv (mv := .slice A 256 cap) (X := []) HCL.out (j := 20) (by decide) (v := .int .u64 d.cnt) rfl)
  rw [hcn] at x46
  cases b
  · go_wp2_with (show wpList _ _ _ ((⟨_, Op.store 57 _ _, _, _, _, _⟩ : Oper) :: _) _ _; refine Mem.go_storeAll 57 rfl rfl rfl rfl (news := z49) 0 M3.out rfl sMac rfl (mc_one zC rfl zD (X := []) (fun v hv => by cases hv)) ?_; intro w4 MM'; (try simp only [List.set_cons_zero, List.set_cons_succ] at MM'); have M4 := Lib.hid MM'; clear MM')
    refine bodyPost_ret (res_cttt Tryz.results39 rfl (HRZ.out _ (M4.out.blk 0 rfl))) rfl ?_
    exact HZ.out _ M4.out.held (M4.out.blk 0 rfl) _ _ _
  · go_upto_region 3 with fail
    have cO := Lib.hid fun dd os => Calls.regrown_of (d := dd) (os := os) (HON.out (grow (redrawn w3 dd) os))
    clear x46
    refine wp_region_quiet_below (by kernel_rfl) (by kernel_rfl) ?_
    repeat (go_big_quiet_step (first | (go_at_call 29; with_reducible exact cO.out _ _)))
    refine wpQuiet_nil ?_
    intro w5 hw'
    obtain ⟨⟨dq, osq⟩, hw''⟩ := hw'
    have h5 : Held w3 w5 := by rw [hw'']; exact below_regrown w3 dq osq
    have M5 := Lib.hid (M3.out.keep h5)
    clear hw'' cO h5 M3 HON
    go_wp2_with (show wpList _ _ _ ((⟨_, Op.load 57 _, _, _, _, _⟩ : Oper) :: _) _ _; refine Mem.go_loadAll 57 rfl rfl rfl 1 M5.out rfl uMac (by rw [mc_size HCL.out]; exact sMac) ?_)
    refine (HO.out _ M5.out.held).mono ?_
    rintro e w6 ⟨g, rfl, h6, hown⟩
    have M6 := Lib.hid (M5.out.ownF h6 hown)
    clear h6 hown HO M5
    go_upto_region 6 with (show wpList _ _ _ ((⟨_, Op.store 57 _ _, _, _, _, _⟩ : Oper) :: _) _ _; refine Mem.go_storeAll 57 rfl rfl rfl rfl 2 M6.out rfl (by rw [mc_size HCL.out]; exact sMac) (by first | (rw [mc_size HCL.out]; done) | (rw [mc_size HCL.out]; rfl) | (rw [mc_size HCL.out, mc_size HCL.out]; done) | (rw [mc_size HCL.out, mc_size HCL.out]; rfl)) (mc_one _ rfl _ (fun v hv => by cases hv)) ?_; intro w7 MM'; (try simp only [List.set_cons_zero, List.set_cons_succ] at MM'); have M7 := Lib.hid MM'; clear MM')
    have M8 : Hid (Mem w w7 [memN w.heap.size g 256 M, macB w.heap.size 57 C (memS g 256) d [], .box (w.heap.size + 1) z49 57, outR w.heap.size (.slice none 0 0) []]) := Lib.hid (show Mem w w7 [memN w.heap.size g 256 M, macB w.heap.size 57 C (memS g 256) d [], .box (w.heap.size + 1) z49 57] from M7.out.pick [0, 2, 1] (by decide) rfl).nilRow
    clear M6 M7 HMA M0
    go_upto_region 7 with fail
    iterate 8 go_step
    go_cut [10, 11] (fun v10 v11 wx => ∃ (C1 : List Int) (d1 : Dv) (L1 : List Int) (LO : List Ou), CpuOK C1 ∧ DvOK d1 ∧ d1.cnt ≤ 88 ∧ MemOK L1 ∧ Mem w wx [memN w.heap.size g 256 L1, macB w.heap.size 57 C1 (memS g 256) d1 [], .box (w.heap.size + 1) z49 57, outR w.heap.size v10 LO])
    case first =>
      go_wp2_with fail
      go_loopw [10, 11] (fun u10 u11 wr => ∃ (q : Nat) (C1 : List Int) (d1 : Dv) (L1 : List Int) (LO : List Ou), u11 = .int .i64 0 ∧ d1.cnt = (q : Int) ∧ q ≤ 87 ∧ LO.length ≤ q ∧ CpuOK C1 ∧ DvOK d1 ∧ MemOK L1 ∧ Mem w wr [memN w.heap.size g 256 L1, macB w.heap.size 57 C1 (memS g 256) d1 [], .box (w.heap.size + 1) z49 57, outR w.heap.size u10 LO]) (fun _ _ wr => 87 - cntAt w.heap.size wr)
      case atStart => exact ⟨0, C, d, M, [], rfl, HB.out.2.2.1, by decide, Nat.le_refl _, HB.out.1, HB.out.2.1, HB.out.2.2.2, M8.out⟩
      case round =>
        obtain ⟨q, C1, d1, L1, LO, rfl, hc1, hq, hlo, hC1, hd1, hL1, hM⟩ := hrel
        obtain ⟨A9, cap9, rfl, hcap9, _⟩ := (hM.row 3 rfl).shape
        have N0 := Lib.hid hM
        have HCLo := HCL
        clear HCL
        have HCL := Lib.hid hC1.len
        have HSZ : Is (mcA C1 (memS g 256) d1 []).size (49 + ([] : List Value).length) := ⟨mc_size HCL.out⟩
        have HD1 := Lib.hid (And.intro hC1 (And.intro hd1 (And.intro hc1 hL1)))
        have c46 := mc_dv (mv := memS g 256) (X := []) HCL.out (j := 20) (by decide) (v := .int .u64 d1.cnt) rfl
        rw [hc1] at c46
        have HC46 := Lib.hid c46
        have x46 := N0.out.cell 1 rfl 46 c46
        have x48 := N0.out.cell 1 rfl 48 (mc_dv (mv := memS g 256) (d := d1) (X := []) HCL.out (j := 22) (by decide) (v := .bool d1.hal) rfl)
        have HIA := Lib.hid fun w => idle_any C1 (memS g 256) d1 HCL.out HD1.out.2.1.bta w
        have HRA := Lib.hid fun (w' : World) (h' : Held wr w') => reads_any C1 (some ⟨g, 0, none⟩) 256 d1 L1 HD1.out.1 HD1.out.2.1 HD1.out.2.2.2 (Nat.le_refl _) w' (((N0.out.row 0 rfl).reads uC_len).1.held h')
        unfold RdTo at HRA
        have HEX := Lib.hid fun (wx : World) (h : Mem w wx [memN w.heap.size g 256 L1, macB w.heap.size 57 C1 (memS g 256) d1 [], .box (w.heap.size + 1) z49 57, outR w.heap.size (.slice A9 LO.length cap9) LO]) => (⟨C1, d1, L1, LO, HD1.out.1, HD1.out.2.1, by have := HD1.out.2.2.1; omega, HD1.out.2.2.2, h⟩ : ∃ (C1 : List Int) (d1 : Dv) (L1 : List Int) (LO' : List Ou), CpuOK C1 ∧ DvOK d1 ∧ d1.cnt ≤ 88 ∧ MemOK L1 ∧ Mem w wx [memN w.heap.size g 256 L1, macB w.heap.size 57 C1 (memS g 256) d1 [], .box (w.heap.size + 1) z49 57, outR w.heap.size (.slice A9 LO.length cap9) LO'])
        clear hM c46 M8 hC1 hd1 hL1 hc1
        by_cases hlt : q < 87
        · have z2 : (q : Int) < 87 := by omega
          have z3 : (q : Int) < 1152921504606846976 := by omega
          go_wp2_with fail
          obtain ⟨wA, rfl⟩ : ∃ wA : World, wA = wr := ⟨_, rfl⟩
          have HCA : Hid (cntAt w.heap.size wA = q) := Lib.hid (by rw [cntAt_of x46]; rfl)
          go_loopw [11] (fun u11 wr => u11 = .int .i64 0 ∧ wr = wA) (fun _ _ => 0)
          case atStart => exact ⟨rfl, rfl⟩
          case round =>
            obtain ⟨rfl, hwA⟩ := hrel
            rw [← hwA] at N0 HRA
            clear x46 x48
            go_upto_region 9 with fail
            refine wp_region_quiet_below (by kernel_rfl) (by kernel_rfl) ?_
            repeat (go_big_quiet_step (fail))
            refine wpQuiet_nil ?_
            intro w2 hw'
            obtain ⟨⟨dq, osq⟩, hw''⟩ := hw'
            have h5 : Held wr w2 := by rw [hw'']; exact below_regrown wr dq osq
            have N1 := Lib.hid (N0.out.keep h5)
            clear hw''
            have x48 := N1.out.cell 1 rfl 48 (mc_dv (mv := memS g 256) (d := d1) (X := []) HCL.out (j := 22) (by decide) (v := .bool d1.hal) rfl)
            obtain ⟨bh, hbh⟩ : ∃ b, d1.hal = b := ⟨_, rfl⟩
            rw [hbh] at x48
            go_upto_if 97 with fail
            clear hbh x48
            cases bh
            · go_wp2_with (show wpList _ _ _ ((⟨_, Op.load 57 _, _, _, _, _⟩ : Oper) :: _) _ _; refine Mem.go_loadAll 57 rfl rfl rfl 1 N1.out rfl uMac (by rw [mc_size HCL.out]; exact sMac) ?_)
              refine (HIA.out _).mono ?_
              rintro e w4 ⟨b, rfl, h4⟩
              have N2 := Lib.hid (N1.out.keep h4)
              clear h4 N1
              cases b
              · go_upto_region 17 with fail
                refine wp_region_quiet_below (by kernel_rfl) (by kernel_rfl) ?_
                repeat (go_big_quiet_step (fail))
                refine wpQuiet_nil ?_
                intro w5 hw'
                obtain ⟨⟨dq, osq⟩, hw''⟩ := hw'
                have h5 : Held w4 w5 := by rw [hw'']; exact below_regrown w4 dq osq
                have N3 := Lib.hid (N2.out.keep h5)
                clear hw''
                go_wp2_with (show wpList _ _ _ ((⟨_, Op.load 57 _, _, _, _, _⟩ : Oper) :: _) _ _; refine Mem.go_loadAll 57 rfl rfl rfl 1 N3.out rfl uMac (by rw [mc_size HCL.out]; exact sMac) ?_)
                refine (reads_any C1 (some ⟨g, 0, none⟩) 256 d1 L1 HD1.out.1 HD1.out.2.1 HD1.out.2.2.2 (Nat.le_refl _) _ ((N3.out.row 0 rfl).reads uC_len).1).mono ?_
                rintro e w6 ⟨b, rfl, _, h6⟩
                have N4 := Lib.hid (N3.out.keep h6)
                clear h6 N3 N2
                cases b
                · have HAV := Lib.hid fun (w' : World) (h : Mem w w' [memN w.heap.size g 256 L1, macB w.heap.size 57 C1 (memS g 256) d1 [], .box (w.heap.size + 1) z49 57, outR w.heap.size (.slice A9 LO.length cap9) LO]) => advance7_any w w.heap.size 57 C1 g 256 d1 _ _ L1 0 ⟨by decide, by decide⟩ HD1.out.1 HD1.out.2.1 (by have := HD1.out.2.2.1; omega) HD1.out.2.2.2 w' h
                  unfold AdvTo at HAV
                  go_wp2_with fail
                  refine (HAV.out _ N4.out).mono ?_
                  rintro e w8 ⟨C2, d5, vo, LO2, L5, rfl, hA, hlo2, hL5, h16⟩
                  obtain ⟨A6, cap6, rfl, hcap6, _⟩ := (h16.row 0 rfl).shape
                  have N5 := Lib.hid h16
                  have HA := Lib.hid hA
                  have HL5 := Lib.hid hL5
                  clear hA h16 hL5 N4
                  go_wp2_with (at_builtin; refine Mem.wp_cat N5.out 4 rfl rfl _ _ _ rfl _ 40 Tryz.underlying62 info_out rfl (by decide) oC_len oC_one LO2 A6 LO2.length cap6 rfl rfl ((N5.out.row 0 rfl).reads oC_len).1 rfl (by omega) (by decide) ?_; intro A7 cap7 w17 MM' hA7; (try simp only [List.set_cons_zero, List.set_cons_succ] at MM'); have N6 := Lib.hid MM'; clear MM' hA7)
                  have hcq : d5.cnt = ((q + 1 : Nat) : Int) := by rw [HA.out.cnt, HD1.out.2.2.1]; push_cast; rfl
                  have c46 := mc_dv (mv := memS g 256) (X := []) HA.out.cpu.len (j := 20) (by decide) (v := .int .u64 d5.cnt) rfl
                  have y46 := N6.out.cell 2 rfl 46 c46
                  have e46 := cntAt_of y46
                  refine ⟨⟨q + 1, C2, d5, L5, LO ++ LO2, rfl, hcq, by omega, by rw [List.length_append]; omega, HA.out.cpu, HA.out.dok, HL5.out, N6.out.pick [1, 2, 3, 4] (by decide) rfl⟩, ?_⟩
                  rw [e46, HCA.out, hcq]
                  omega
                · go_wp2_with (show wpList _ _ _ ((⟨_, Op.store 57 _ _, _, _, _, _⟩ : Oper) :: _) _ _; refine Mem.go_storeAll 57 rfl rfl rfl rfl (news := z49) 2 N4.out rfl sMac rfl (mc_one zC rfl zD (X := []) (fun v hv => by cases hv)) ?_; intro w7 MM'; (try simp only [List.set_cons_zero, List.set_cons_succ] at MM'); have N5 := Lib.hid MM'; clear MM')
                  refine bodyPost_ret (res_cttt Tryz.results39 rfl (HRZ.out _ (N5.out.blk 2 rfl))) rfl ?_
                  exact HZ.out _ N5.out.held (N5.out.blk 2 rfl) _ _ _
              · go_wp2_with fail
                go_meet
                case rel => exact HEX.out _ N2.out
            · go_wp2_with fail
              go_meet
              case rel => exact HEX.out _ N1.out
        · obtain rfl : q = 87 := by omega
          go_wp2_with fail
          go_meet
          case rel => exact HEX.out _ N0.out
    case rest =>
      obtain ⟨C1, d1, L1, LO, hC1, hd1, hc1, hL1, hM⟩ := hcut
      have M9 := Lib.hid hM
      have HCL := Lib.hid hC1.len
      have HD1 := Lib.hid (And.intro hC1 (And.intro hd1 (And.intro hc1 hL1)))
      clear hM hC1 hd1 hc1 hL1 M8
      go_wp2_with (first | (show wpList _ _ _ ((⟨_, Op.load 57 _, _, _, _, _⟩ : Oper) :: _) _ _; refine Mem.go_loadAll 57 rfl rfl rfl 1 M9.out rfl uMac (by rw [mc_size HCL.out]; exact sMac) ?_) | (show wpList _ _ _ ((⟨_, Op.store 57 _ _, _, _, _, _⟩ : Oper) :: _) _ _; refine Mem.go_storeAll 57 rfl rfl rfl rfl 2 M9.out rfl (by rw [mc_size HCL.out]; exact sMac) (by first | (rw [mc_size HCL.out]; done) | (rw [mc_size HCL.out]; rfl) | (rw [mc_size HCL.out, mc_size HCL.out]; done) | (rw [mc_size HCL.out, mc_size HCL.out]; rfl)) (mc_one _ rfl _ (fun v hv => by cases hv)) ?_; intro wA MM'; (try simp only [List.set_cons_zero, List.set_cons_succ] at MM'); have MA := Lib.hid MM'; clear MM'))
      refine bodyPost_ret (res_cttt Tryz.results39 rfl (load_mac (mc_size HCL.out) (MA.out.blk 2 rfl))) rfl ?_
      exact ⟨C1, some ⟨g, 0, none⟩, 256, 256, d1, L1, _, _, _, rfl, ⟨.inl rfl, HD1.out.1, fun _ => HD1.out.2.2.2⟩, HD1.out.2.1, by have := HD1.out.2.2.1; omega, MA.out.row 0 rfl, MA.out.held⟩
end Ma
end Go.Proofs.YtdacgdokbfcgdaaGreat

namespace Go.Proofs.YtdacgdokbfcgdaaGreat
open Go.RowKit Go.BigFrame Go.Sort Go.Lib
namespace Ma
theorem copy_mem {W w : World} {H : List Ck} (h : Mem W w H) (i : Nat) {g n : Nat} {L : List Int} (hi : H[i]? = some (.row 40 1 uC W.heap.size (.slice (some ⟨g, 0, none⟩) n n) L)) {I : List Int} {A : Option Addr} {ni cap : Nat} (hI : Sl 1 uC w A ni I) (hn : ni ≤ n) :
    ∃ w', (Builtin.copy_ #[45, 45] 3 #[.slice (some ⟨g, 0, none⟩) n n, .slice A ni cap]).run Tryz.prog w = .ok (goInt ni) w' ∧ Mem W w' (H.set i (.row 40 1 uC W.heap.size (.slice (some ⟨g, 0, none⟩) n n) (I ++ L.drop ni))) := by
  have hro := h.row i hi
  rcases hro.2 with ⟨he, h0⟩ | ⟨g', cp, cur, he, q1, q2, q3, q4, q5, q6⟩
  · injection he with he
    cases he
  · injection he with e1 e2 e3
    injection e1 with e1
    injection e1 with e1 _ _
    subst e1 e3
    rcases Nat.eq_zero_or_pos ni with z | hpos
    · subst z
      have hL : I = [] := List.eq_nil_of_length_eq_zero hI.1
      subst hL
      refine ⟨w, run_copy_none (P := Tryz.prog) w 45 45 3 40 (some ⟨g, 0, none⟩) A n n 0 cap Tryz.underlying45 (by kernel_rfl) (by simp), ?_⟩
      rw [List.drop_zero, List.nil_append]
      obtain ⟨li, hh⟩ := List.getElem?_eq_some_iff.1 hi
      rw [← hh, List.set_getElem_self]
      exact h
    · obtain ⟨b, off, rfl, hb, hc⟩ : ∃ b off, A = some ⟨b, off, none⟩ ∧ b < w.heap.size ∧ ∀ j v, (I.flatMap uC)[j]? = some v → w.cell? ⟨b, off + j, none⟩ = some v := by
        rcases hI.2 with h | ⟨b, off, rfl, hb, hc⟩
        · omega
        · refine ⟨b, off, rfl, hb, fun j v hv => ?_⟩
          rw [uC_flat] at hv
          obtain ⟨hj, he⟩ := List.getElem?_eq_some_iff.1 hv
          rw [List.length_map] at hj
          have := hc j hj 0 v (by rw [List.getElem_map] at he; rw [← he]; rfl)
          rwa [Nat.mul_one, Nat.add_zero] at this
      have hl : (I.flatMap uC).length = ni := by rw [flat_len uC_len, hI.1, Nat.mul_one]
      have hsz : cur.size = n := by rw [q5, Nat.mul_one]
      have hcp := run_copy_row (P := Tryz.prog) w 45 45 3 40 g 0 n n ⟨b, off, none⟩ ni cap cur 40 (I.flatMap uC) Tryz.underlying45 (by kernel_rfl) q2 (by rw [hl]; exact (Nat.min_eq_left hn).symm) (fun j v hv => by rw [addr_add]; exact hc j v hv) (by rw [hl, hsz]; omega) (fun v hv => by rw [uC_flat] at hv; obtain ⟨x, _, rfl⟩ := List.mem_map.1 hv; rfl)
      rw [hl] at hcp
      refine ⟨_, hcp, h.upd hi _ ⟨rfl, rfl, rfl, by simp [World.setRow], fun k hk => absurd hk (Nat.not_lt_zero _)⟩ (fun k hk hne => setRow_other w g k _ (by simpa [Ck.row, Value.ownBlock] using hne)) ?_ (fun k hk => .inl hk)⟩
      have hlen : (I ++ L.drop ni).length = n := by rw [List.length_append, List.length_drop, hI.1, ← e2]; omega
      have hcl : cur.toList = L.flatMap uC := by
        rw [← q6, List.take_of_length_le (by rw [Array.length_toList, q5, ← e2]; exact Nat.le_refl _)]
      have hfl : ((I ++ L.drop ni).flatMap uC) = List.take 0 cur.toList ++ I.flatMap uC ++ List.drop (0 + ni) cur.toList := by
        rw [List.take_zero, List.nil_append, Nat.zero_add, List.flatMap_append, hcl, uC_flat, uC_flat, uC_flat, List.map_drop]
      have hll : ((I ++ L.drop ni).flatMap uC).length = n := by rw [flat_len uC_len, hlen, Nat.mul_one]
      show Own _ _ _ _ _ _ _
      rw [← hfl]
      refine ⟨by rw [hll, hlen, Nat.mul_one], .inr ⟨g, n, _, by rw [hlen], q1, setRow_heap w g _ _ _ _ q2, by rw [hlen]; exact Nat.le_refl _, q4, by rw [List.size_toArray, hll, Nat.mul_one], ?_⟩⟩
      rw [hlen, Nat.mul_one]
      exact List.take_of_length_le (by rw [hll]; exact Nat.le_refl _)
set_option maxHeartbeats 2000000 in
theorem new1_any (p : Nat) (h1 : 1 ≤ p) (h2 : p ≤ 32) (w : World) : Calls Tryz.prog 59 #[.int .i64 (p : Int)] w (CpyTo (p * 32) (List.replicate (p * 32) 0) w) := by
  have z1 : ¬ (p : Int) < 1 := by omega
  have z1' : (1 : Int) ≤ p := by omega
  have z2 : ¬ (32 : Int) < p := by omega
  have z2' : (p : Int) ≤ 32 := by omega
  have z3 : IntKind.i64.wrap ((p : Int) * 32) = (p : Int) * 32 := IntWalk.i64_in _ ⟨by omega, by omega⟩
  go_enter Tryz.func59, Tryz.ntmps59
  go_wp2_with (at_make; refine Mem.wp_make (Mem.start w) rfl _ _ 45 rfl (.int .u32 0) 4 Tryz.underlying45 info_u32 (f := uC) 0 (by decide) uC_len rfl .i64 .i64 _ _ (p * 32) rfl rfl (by push_cast; rfl) (by push_cast; rfl) (by omega) (by unfold maxLen; omega) ?_; intro w1 M1 h1; have M0 := Lib.hid M1; clear M1 h1)
  go_ret
  exact ⟨w.heap.size, rfl, M0.out.held, M0.out.row 0 rfl⟩
theorem load_cpu {w : World} {b : Nat} {cs : Array Value} {t : TypeId} (hs : cs.size = 25) (h : w.heap[b]? = some (.cells cs t (0, 0))) : (loadVar 44 ⟨b, 0, none⟩).run Tryz.prog w = .ok (.agg cs) w := by
  obtain ⟨fs, hu⟩ := uCpu
  have := Big.run_load (P := Tryz.prog) w b 0 25 t 44 cs (0, 0) _ h hu rfl sCpu (by omega) cs.toList (by rw [List.drop_zero, List.take_of_length_le (by rw [Array.length_toList]; omega)])
  simpa using this
abbrev rC : List Int := [0, 0, 0, 0, 0, 0, 0, 0, 0, 0, 0, 0, 0, 0, 0, 0, 0, 1, 0, 0, 0, 0, 0, 0, 0]
set_option maxHeartbeats 4000000 in
theorem reset_any (w : World) : Calls Tryz.prog 58 #[.int .u32 0] w fun e w' => e = .returned (.agg (wA rC)) ∧ Held w w' := by
  have M0 := Lib.hid (((Mem.start w).allocF (b := w.heap.size) rfl (wA zC) 44).allocF (b := w.heap.size + 1) (by simp) (wA zC) 44)
  go_enter Tryz.func58, Tryz.ntmps58
  go_upto_region 2 with (show wpList _ _ _ ((⟨_, Op.store 44 _ _, _, _, _, _⟩ : Oper) :: _) _ _; refine Mem.go_storeAll 44 rfl rfl rfl rfl (news := wA zC) 0 M0.out rfl sCpu rfl (wA_one _) ?_; intro w1 MM'; (try simp only [List.set_cons_zero, List.set_cons_succ] at MM'); have M1 := Lib.hid MM'; clear MM')
  have x17 := M1.out.cell 0 rfl 17 (wA_at (L := zC) (j := 17) (by decide))
  have f17 := M1.out.free 0 rfl 17
  have MM' := M1.out.put 0 rfl 17 (.int .u32 1)
  rw [wA_set] at MM'
  have M2 : Hid (Mem w _ [.box (w.heap.size + 1) (wA rC) 44, .box w.heap.size (wA zC) 44]) := Lib.hid MM'
  clear MM' M0
  go_wp2_with (first | (show wpList _ _ _ ((⟨_, Op.load 44 _, _, _, _, _⟩ : Oper) :: _) _ _; refine Mem.go_loadAll 44 rfl rfl rfl 0 M2.out rfl uCpu sCpu ?_) | (show wpList _ _ _ ((⟨_, Op.store 44 _ _, _, _, _, _⟩ : Oper) :: _) _ _; refine Mem.go_storeAll 44 rfl rfl rfl rfl (news := wA rC) 1 M2.out rfl sCpu rfl (wA_one _) ?_; intro w3 MM'; (try simp only [List.set_cons_zero, List.set_cons_succ] at MM'); have M3 := Lib.hid MM'; clear MM'))
  refine bodyPost_ret (Bx.res_c Tryz.results58 rfl (load_cpu rfl (M3.out.blk 1 rfl))) rfl ?_
  exact ⟨rfl, M3.out.held⟩
abbrev zDb (bl : Int) : Dv := ⟨⟨#[]⟩, false, 0, false, bl, 0, 0, 0, 0, 0, 0, ⟨#[]⟩, 0, 0, false, 0, false, 0, 0, 0, 0, false, false⟩
set_option maxHeartbeats 8000000 in
theorem new7_any (p bl : Nat) (hp : 1 ≤ p) (hp2 : p ≤ 32) (hb : bl ≤ 64) (A : Option Addr) (ni cap : Nat) (I : List Int) (w : World) (hI : Sl 1 uC w A ni I) (hn : ni ≤ p * 32) :
    Calls Tryz.prog 38 #[.int .i64 (p : Int), .int .i64 (bl : Int), .slice A ni cap] w (fun e w' => ∃ g, e = .returned (.tuple #[macV rC (.slice (some ⟨g, 0, none⟩) (p * 32) (p * 32)) (zDb bl), .bool true]) ∧ Mem w w' [memN w.heap.size g (p * 32) (I ++ (List.replicate (p * 32) 0).drop ni)]) := by
  have z1 : ¬ (p : Int) < 1 := by omega
  have z1' : (1 : Int) ≤ p := by omega
  have z2 : ¬ (32 : Int) < p := by omega
  have z2' : (p : Int) ≤ 32 := by omega
  have z3 : IntKind.i64.wrap ((p : Int) * 32) = (p : Int) * 32 := IntWalk.i64_in _ ⟨by omega, by omega⟩
  have z4 : ¬ (bl : Int) < 0 := by omega
  have z4' : (0 : Int) ≤ bl := by omega
  have z5 : ¬ (64 : Int) < bl := by omega
  have z5' : (bl : Int) ≤ 64 := by omega
  have z6 : ¬ (p : Int) * 32 < ni := by omega
  have z6' : (ni : Int) ≤ (p : Int) * 32 := by omega
  have z7 : IntKind.u32.wrap (bl : Int) = bl := by rw [IntKind.wrap_u32']; omega
  have HR := Lib.hid fun w => reset_any w
  have HN1 := Lib.hid fun w => new1_any p hp hp2 w
  unfold CpyTo at HN1
  have HI := Lib.hid hI
  have HN := Lib.hid hn
  have M0 := Lib.hid ((Mem.start w).allocF (b := w.heap.size) rfl z49 57)
  clear hI hn hp hp2 hb
  go_enter Tryz.func38, Tryz.ntmps38
  go_wp2_with fail
  refine (HR.out _).mono ?_
  rintro e w1 ⟨rfl, h1⟩
  have M1 := Lib.hid (M0.out.keep h1)
  clear h1
  go_wp2_with fail
  refine (HN1.out _).mono ?_
  rintro e w2 ⟨g, rfl, h2, hown⟩
  have M2 := Lib.hid ((M1.out.ownF h2 hown).allocF (b := w2.heap.size) rfl z49 57)
  clear h2 hown M1 M0
  obtain ⟨n, hnp⟩ : ∃ n, p * 32 = n := ⟨_, rfl⟩
  rw [hnp] at M2 ⊢
  have HNP := Lib.hid hnp
  clear hnp
  go_upto_region 4 with (show wpList _ _ _ ((⟨_, Op.store 57 _ _, _, _, _, _⟩ : Oper) :: _) _ _; refine Mem.go_storeAll 57 rfl rfl rfl rfl (news := mcA rC (.slice (some ⟨g, 0, none⟩) n n) zD []) 0 M2.out rfl sMac rfl (mc_one rC rfl zD (X := []) (fun v hv => by cases hv)) ?_; intro w3 MM'; (try simp only [List.set_cons_zero, List.set_cons_succ] at MM'); have M3 := Lib.hid MM'; clear MM')
  have hnn : ni ≤ n := by rw [← HNP.out]; exact HN.out
  obtain ⟨b8, hb8⟩ : ∃ b8, w2.heap.size = b8 := ⟨_, rfl⟩
  rw [hb8] at M3 ⊢
  obtain ⟨w4, hcp, hM4⟩ := copy_mem M3.out 1 rfl (cap := cap) (HI.out.held M3.out.held) hnn
  have M4 : Hid (Mem w w4 [.box b8 (mcA rC (.slice (some ⟨g, 0, none⟩) n n) zD []) 57, memN w.heap.size g n (I ++ (List.replicate n 0).drop ni), .box w.heap.size z49 57]) := Lib.hid hM4
  have x25 := M3.out.cell 0 rfl 25 (mc_mem (mv := .slice (some ⟨g, 0, none⟩) n n) (d := zD) (X := []) rfl)
  clear hM4 hb8 M2
  go_upto_region 5 with fail
  clear x25 hcp M3
  have x30 := M4.out.cell 0 rfl 30 (mc_dv (mv := .slice (some ⟨g, 0, none⟩) n n) (d := zD) (X := []) rfl (j := 4) (by decide) (v := .int .u32 0) rfl)
  have f30 := M4.out.free 0 rfl 30
  have M5 : Hid (Mem w _ [.box b8 (mcA rC (.slice (some ⟨g, 0, none⟩) n n) (zDb bl) []) 57, memN w.heap.size g n (I ++ (List.replicate n 0).drop ni), .box w.heap.size z49 57]) := Lib.hid (M4.out.put 0 rfl 30 (.int .u32 bl))
  go_wp2_with (first | (show wpList _ _ _ ((⟨_, Op.load 57 _, _, _, _, _⟩ : Oper) :: _) _ _; refine Mem.go_loadAll 57 rfl rfl rfl 0 M5.out rfl uMac sMac ?_) | (show wpList _ _ _ ((⟨_, Op.store 57 _ _, _, _, _, _⟩ : Oper) :: _) _ _; refine Mem.go_storeAll 57 rfl rfl rfl rfl 2 M5.out rfl sMac rfl (mc_one rC rfl (zDb bl) (X := []) (fun v hv => by cases hv)) ?_; intro w6 MM'; (try simp only [List.set_cons_zero, List.set_cons_succ] at MM'); have M6 := Lib.hid MM'; clear MM'))
  refine bodyPost_ret (Bx.res_ct Tryz.results38 rfl (load_mac rfl (M6.out.blk 2 rfl))) rfl ?_
  have hnp := HNP.out
  subst hnp
  exact ⟨g, rfl, M6.out.pick [1] (by decide) rfl⟩
end Ma
end Go.Proofs.YtdacgdokbfcgdaaGreat

namespace Go.Proofs.YtdacgdokbfcgdaaGreat
open Go.RowKit Go.BigFrame Go.Sort Go.Lib
namespace Ma
abbrev opsL : List Nat := [1, 2, 3, 4, 5, 6, 7, 8, 9, 10, 11, 12, 13, 16, 16, 17, 18, 19, 20, 21, 22, 23, 24, 24, 32, 32, 33, 34, 35, 35, 36, 40, 41, 42, 43, 44, 45, 48, 49, 56, 57, 58, 59, 60, 60, 61, 61, 62, 63, 64]
abbrev opsA : Array Value := #[.int .i64 1, .int .i64 2, .int .i64 3, .int .i64 4, .int .i64 5, .int .i64 6, .int .i64 7, .int .i64 8, .int .i64 9, .int .i64 10, .int .i64 11, .int .i64 12, .int .i64 13, .int .i64 16, .int .i64 16, .int .i64 17, .int .i64 18, .int .i64 19, .int .i64 20, .int .i64 21, .int .i64 22, .int .i64 23, .int .i64 24, .int .i64 24, .int .i64 32, .int .i64 32, .int .i64 33, .int .i64 34, .int .i64 35, .int .i64 35, .int .i64 36, .int .i64 40, .int .i64 41, .int .i64 42, .int .i64 43, .int .i64 44, .int .i64 45, .int .i64 48, .int .i64 49, .int .i64 56, .int .i64 57, .int .i64 58, .int .i64 59, .int .i64 60, .int .i64 60, .int .i64 61, .int .i64 61, .int .i64 62, .int .i64 63, .int .i64 64]
theorem ops_cell (k : Nat) (hk : k < 50) : ∃ z : Nat, (1 ≤ z ∧ z ≤ 64 ∧ (z ≤ 13 ∨ 16 ≤ z) ∧ (z ≤ 24 ∨ 32 ≤ z) ∧ (z ≤ 36 ∨ 40 ≤ z) ∧ (z ≤ 49 ∨ 56 ≤ z)) ∧ opsA.toList[k]? = some (.int .i64 (z : Int)) := by
  have e : opsA.toList = opsL.map (fun n : Nat => Value.int .i64 (n : Int)) := rfl
  have hl : k < opsL.length := hk
  have hm : ∀ x ∈ opsL, 1 ≤ x ∧ x ≤ 64 ∧ (x ≤ 13 ∨ 16 ≤ x) ∧ (x ≤ 24 ∨ 32 ≤ x) ∧ (x ≤ 36 ∨ 40 ≤ x) ∧ (x ≤ 49 ∨ 56 ≤ x) := by decide
  refine ⟨opsL[k], hm _ (List.getElem_mem hl), ?_⟩
  rw [e, List.getElem?_map, List.getElem?_eq_getElem hl]
  rfl
def OpsTo (w : World) (e : Ending) (w' : World) : Prop := ∃ g, e = .returned (.slice (some ⟨g, 0, none⟩) 50 50) ∧ Held w w' ∧ ∀ k, k < 50 → ∃ z : Nat, (1 ≤ z ∧ z ≤ 64 ∧ (z ≤ 13 ∨ 16 ≤ z) ∧ (z ≤ 24 ∨ 32 ≤ z) ∧ (z ≤ 36 ∨ 40 ≤ z) ∧ (z ≤ 49 ∨ 56 ≤ z)) ∧ w'.cell? ⟨g, k, none⟩ = some (.int .i64 (z : Int))
theorem opsTo_new (w : World) : OpsTo w (.returned (.slice (some ⟨w.heap.size, 0, none⟩) 50 50)) (w.alloc (.cells opsA 3)) := by
  refine ⟨w.heap.size, rfl, (Held.refl w).alloc _, fun k hk => ?_⟩
  obtain ⟨z, h1, h3⟩ := ops_cell k hk
  have := cells_new w rfl opsA 3 k _ h3
  rw [addr_add, Nat.zero_add] at this
  exact ⟨z, h1, this⟩
set_option maxHeartbeats 4000000 in
theorem ops_any (w : World) : Calls Tryz.prog 77 #[] w (OpsTo w) := by
  have HN := Lib.hid (opsTo_new w)
  go_enter Tryz.func77, Tryz.ntmps77
  go_wp2
  go_ret
  exact HN.out
end Ma
end Go.Proofs.YtdacgdokbfcgdaaGreat
