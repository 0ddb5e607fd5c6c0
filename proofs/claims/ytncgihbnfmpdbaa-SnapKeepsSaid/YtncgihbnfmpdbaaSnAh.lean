/-
  Many pieces of memory as one; rows of rows; SameStrings on equal lists (chapter 41).
-/
import Derived.Test.YtncgihbnfmpdbaaSnAg
set_option linter.unusedVariables false
set_option linter.unusedSimpArgs false
set_option maxRecDepth 100000
namespace Go.Proofs.Ytncgihbnfmpdbaa
open Go.RowKit Go.BigFrame
/-- Many pieces as one. -/
def Ck.many (l : List Ck) : Ck :=
  ⟨l.flatMap Ck.bs, fun w => (∀ c ∈ l, c.P w) ∧ l.Pairwise (fun c d : Ck => ∀ b : Nat, b ∈ c.bs → b ∉ d.bs), fun h p => ⟨fun c hc => c.loc (fun b hb => h b (List.mem_flatMap.2 ⟨c, hc, hb⟩)) (p.1 c hc), p.2⟩,
   fun p b hb => by obtain ⟨c, hc, hb⟩ := List.mem_flatMap.1 hb; exact c.lt (p.1 c hc) b hb⟩
theorem Mem.pack {W w : World} {H l : List Ck} (h : Mem W w (H ++ l)) : Mem W w (H ++ [Ck.many l]) := by
  have hs := List.pairwise_append.1 h.sep
  refine ⟨h.held, fun c hc => ?_, List.pairwise_append.2 ⟨hs.1, List.pairwise_singleton _ _, fun c hc d hd b hb1 hb2 => ?_⟩⟩
  · rcases List.mem_append.1 hc with hc | hc
    · exact h.ok c (List.mem_append_left _ hc)
    · rw [List.mem_singleton] at hc
      subst hc
      refine ⟨⟨fun c hc => (h.ok c (List.mem_append_right _ hc)).1, hs.2.1⟩, fun b hb => ?_⟩
      obtain ⟨c, hc, hb⟩ := List.mem_flatMap.1 hb
      exact (h.ok c (List.mem_append_right _ hc)).2 b hb
  · rw [List.mem_singleton] at hd
    subst hd
    obtain ⟨d, hd, hb2⟩ := List.mem_flatMap.1 hb2
    exact hs.2.2 c hc d hd b hb1 hb2
theorem Mem.unpack {W w : World} {H l : List Ck} (h : Mem W w (H ++ [Ck.many l])) : Mem W w (H ++ l) := by
  have hs := List.pairwise_append.1 h.sep
  have hm := h.ok (Ck.many l) (List.mem_append_right _ List.mem_cons_self)
  refine ⟨h.held, fun c hc => ?_, List.pairwise_append.2 ⟨hs.1, hm.1.2, fun c hc d hd b hb1 hb2 => ?_⟩⟩
  · rcases List.mem_append.1 hc with hc | hc
    · exact h.ok c (List.mem_append_left _ hc)
    · exact ⟨hm.1.1 c hc, fun b hb => hm.2 b (List.mem_flatMap.2 ⟨c, hc, hb⟩)⟩
  · exact hs.2.2 c hc (Ck.many l) List.mem_cons_self b hb1 (List.mem_flatMap.2 ⟨d, hd, hb2⟩)
namespace Sn
/-- A slice of strings as an element. -/
structure Vr where
  A : Option Addr
  n : Nat
  cap : Nat
def vrC (r : Vr) : List Value := [.slice r.A r.n r.cap]
theorem vrC_len (r : Vr) : (vrC r).length = 1 := rfl
theorem vrC_one (x : Vr) : ∀ u ∈ vrC x, u.oneCell' = true := by intro u hu; simp [vrC] at hu; subst hu; rfl
theorem info_vr : (Try.prog.info? 24).map (fun i => (i.zero, i.size, i.bytes)) = some (some (.slice none 0 0), 1, 24) := by kernel_rfl
def vRow (W : World) (r : Vr) (L : List ByteArray) : Ck := .row 9 1 stC W.heap.size (.slice r.A r.n r.cap) L
def vRows (W : World) (R : List Vr) (V : List (List ByteArray)) : List Ck := List.zipWith (vRow W) R V
theorem vRows_at {W : World} {R : List Vr} {V : List (List ByteArray)} {i : Nat} {r : Vr} {L : List ByteArray} (hr : R[i]? = some r) (hx : V[i]? = some L) : (vRows W R V)[i]? = some (vRow W r L) := by
  unfold vRows; rw [List.getElem?_zipWith, hr, hx]
theorem vRows_snoc (W : World) {R : List Vr} {V : List (List ByteArray)} (h : R.length = V.length) (r : Vr) (L : List ByteArray) : vRows W (R ++ [r]) (V ++ [L]) = vRows W R V ++ [vRow W r L] := by
  unfold vRows; rw [List.zipWith_append h]; rfl
theorem vRows_set {W : World} {R : List Vr} {V : List (List ByteArray)} {p : Nat} {r : Vr} {L M : List ByteArray} (hr : R[p]? = some r) (hL : V[p]? = some L) : (vRows W R V).set p (vRow W r M) = vRows W R (V.set p M) := by
  refine List.ext_getElem? fun j => ?_
  have hl : (vRows W R V).length = min R.length V.length := by unfold vRows; exact List.length_zipWith
  have h1 := (List.getElem?_eq_some_iff.1 hr).1
  have h2 := (List.getElem?_eq_some_iff.1 hL).1
  by_cases e : p = j
  · subst e
    rw [List.getElem?_set_self (by rw [hl]; omega)]
    unfold vRows
    rw [List.getElem?_zipWith, hr, List.getElem?_set_self h2]
  · rw [List.getElem?_set_ne e]
    unfold vRows
    rw [List.getElem?_zipWith, List.getElem?_zipWith, List.getElem?_set_ne e]
/-- Each view's slice has its length. -/
def VrE (R : List Vr) (V : List (List ByteArray)) : Prop := R.length = V.length ∧ ∀ (i : Nat) (r : Vr) (L : List ByteArray), R[i]? = some r → V[i]? = some L → r.n = L.length
theorem VrE.snoc {R : List Vr} {V : List (List ByteArray)} (h : VrE R V) {r : Vr} {L : List ByteArray} (hr : r.n = L.length) : VrE (R ++ [r]) (V ++ [L]) := by
  refine ⟨by rw [List.length_append, List.length_append, h.1]; rfl, fun i r' L' hr' hL' => ?_⟩
  by_cases hi : i < R.length
  · rw [List.getElem?_append_left hi] at hr'
    rw [List.getElem?_append_left (by rw [← h.1]; exact hi)] at hL'
    exact h.2 i r' L' hr' hL'
  · rw [List.getElem?_append_right (by omega)] at hr'
    rw [List.getElem?_append_right (by rw [← h.1]; omega)] at hL'
    have h1 := (List.getElem?_eq_some_iff.1 hr').1
    have h0 : i - R.length = 0 := by simp at h1; omega
    rw [h0] at hr'
    rw [← h.1, h0] at hL'
    injection hr' with hr'; injection hL' with hL'
    subst hr' hL'; exact hr
theorem VrE.set {R : List Vr} {V : List (List ByteArray)} (h : VrE R V) {p : Nat} {L M : List ByteArray} (hL : V[p]? = some L) (hM : M.length = L.length) : VrE R (V.set p M) := by
  refine ⟨by rw [List.length_set]; exact h.1, fun i r X hr hX => ?_⟩
  by_cases e : p = i
  · subst e
    rw [List.getElem?_set_self (List.getElem?_eq_some_iff.1 hL).1] at hX
    injection hX with hX
    subst hX
    rw [hM]; exact h.2 p r L hr hL
  · rw [List.getElem?_set_ne e] at hX
    exact h.2 i r X hr hX
set_option maxHeartbeats 1000000 in
theorem sameStrings_any (A : Option Addr) (n cap : Nat) (A2 : Option Addr) (cap2 : Nat) (L : List ByteArray) (w : World) (h1 : Sl 1 stC w A n L) (h2 : Sl 1 stC w A2 n L) (hn : (n : Int) ≤ 1000000) :
    Calls Try.prog 16 #[.slice A n cap, .slice A2 n cap2] w fun e w' => e = .returned (.bool true) ∧ Held w w' := by
  have H1 := Lib.hid h1
  have H2 := Lib.hid h2
  clear h1 h2
  go_enter Try.func16, Try.ntmps16
  go_wp2
  go_loopw [5] (fun i wr => ∃ k : Nat, i = .int .i64 k ∧ k ≤ n ∧ Held w wr) (fun i _ => n - (intOf i).toNat)
  case atStart => exact ⟨0, rfl, Nat.zero_le _, Held.refl _⟩
  case round =>
    obtain ⟨k, rfl, hk, hw⟩ := hrel
    have HW := Lib.hid hw
    clear hw
    by_cases hlt : (k : Int) < n
    · obtain ⟨b, off, x, rfl, lb, hx, x0⟩ := st_at H1.out HW.out (k := k) (by omega)
      obtain ⟨b2, off2, y, rfl, lb2, hy, y0⟩ := st_at H2.out HW.out (k := k) (by omega)
      obtain rfl : x = y := by rw [hx] at hy; injection hy
      have hne : (x.toList == x.toList) = true := by simp
      have k0 : ¬ (k : Int) < 0 := by omega
      clear hx hy
      go_wp2
      go_big_quiet (fail)
      go_wp2
      go_roundw
      case rel => exact ⟨k + 1, by go_num, by omega, HW.out.step ((Held.refl wr).drewN _)⟩
      case measure => (simp [intOf]) <;> omega
    · go_wp2
      go_ret
      exact ⟨rfl, HW.out⟩
end Sn
end Go.Proofs.Ytncgihbnfmpdbaa
