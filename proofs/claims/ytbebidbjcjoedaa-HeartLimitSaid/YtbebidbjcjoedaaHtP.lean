/-
  Plain: the failure detector (chapter 27).
-/
import Derived.Test.YtbebidbjcjoedaaLg
namespace Go.Proofs.Ytbebidbjcjoedaa.Ht
set_option linter.unusedVariables false
structure Det where
  l : Int
  s : Int
  n : Nat
def vdet (d : Det) : Bool := decide (1 ≤ d.l) && (decide (d.l ≤ 20) && (decide (0 ≤ d.s) && decide (d.s ≤ d.l)))
theorem vdet_iff (d : Det) : vdet d = true ↔ 1 ≤ d.l ∧ d.l ≤ 20 ∧ 0 ≤ d.s ∧ d.s ≤ d.l := by simp [vdet]
def newD (limit : Int) : Det × Bool := if vdet ⟨limit, 0, 0⟩ = true then (⟨limit, 0, 0⟩, true) else (⟨0, 0, 0⟩, false)
def tick (d : Det) : Det := if vdet d = true ∧ d.s < d.l then ⟨d.l, d.s + 1, d.n⟩ else d
def beat (d : Det) (n : Nat) : Det × Bool := if vdet d = false ∨ n ≤ d.n then (d, false) else (⟨d.l, 0, n⟩, true)
def susp (d : Det) : Bool := vdet d && decide (d.s = d.l)
/-- A heartbeat packet. -/
def packet (n k : Nat) : List UInt8 := Lg.packed n (72 :: Uv.put k)
/-- What an opened packet is read as. -/
def parseO (n : Nat) (b : List UInt8) (e : Int) : Nat × Nat × Bool :=
  match b with
  | c :: t => if e = 0 ∧ c = 72 ∧ Uv.uvB t = true ∧ Uv.uvN t = t.length then (n, Uv.uvX t, true) else (0, 0, false)
  | [] => (0, 0, false)
def parse (p : List UInt8) : Nat × Nat × Bool := parseO (Lg.opens p).1 (Lg.opens p).2.1 (Lg.opens p).2.2
theorem parse_packet (n k : Nat) (hn : n < 18446744073709551616) (hk : k < 18446744073709551616) : parse (packet n k) = (n, k, true) := by
  have hl := Uv.put_len k hk
  have h : Lg.opens (packet n k) = (n, 72 :: Uv.put k, 0) := Lg.opens_packed n _ hn (by rw [List.length_cons]; omega)
  have hr := Uv.uv_some (by have := Uv.rd_put k hk []; rw [List.append_nil] at this; exact this)
  unfold parse
  rw [h]
  simp [parseO, hr.1, hr.2.1, hr.2.2]
/-- What is read is the packet of what it is read as. -/
theorem packet_parse {p : List UInt8} {n k : Nat} (h : parse p = (n, k, true)) : p = packet n k ∧ n < 18446744073709551616 ∧ k < 18446744073709551616 := by
  obtain ⟨m, b, e, ho⟩ : ∃ m b e, Lg.opens p = (m, b, e) := ⟨_, _, _, rfl⟩
  unfold parse at h
  rw [ho] at h
  cases b with
  | nil => simp [parseO] at h
  | cons c b =>
    simp only [parseO] at h
    split at h
    · rename_i hc
      obtain ⟨h0, h1, h2, h3⟩ := hc
      injection h with e1 e2
      injection e2 with e2 _
      subst e1 e2
      subst h0 h1
      obtain ⟨g1, g2⟩ := Lg.opens_ok ho
      cases hr : Uv.rd 0 0 b with
      | none => rw [(Uv.uv_none hr).2.2] at h2; cases h2
      | some q =>
        obtain ⟨v, nn⟩ := q
        have hs := Uv.uv_some hr
        obtain ⟨k1, k2, k3, k4⟩ := Uv.put_rd hr
        rw [hs.2.1] at h3
        subst h3
        rw [List.take_length] at k4
        rw [hs.1]
        exact ⟨by unfold packet; rw [k4]; exact g1, g2, k1⟩
    · simp at h
/-- The reference's way of reading agrees. -/
theorem parse_ref (p : List UInt8) (c : UInt8) (b : List UInt8) (ho : (Lg.opens p).2.1 = c :: b) (h0 : (Lg.opens p).2.2 = 0) (hc : c = 72) (h2 : Uv.uvB b = true) (h3 : Uv.uvN b = b.length) : packet (Lg.opens p).1 (Uv.uvX b) = p := by
  have : parse p = ((Lg.opens p).1, Uv.uvX b, true) := by
    unfold parse
    rw [ho]
    simp [parseO, h0, hc, h2, h3]
  exact (packet_parse this).1.symm
theorem parse_no {p : List UInt8} (h : (Lg.opens p).2.2 ≠ 0) : parse p = (0, 0, false) := by
  unfold parse parseO; split
  · rw [if_neg (fun hh => h hh.1)]
  · rfl
end Go.Proofs.Ytbebidbjcjoedaa.Ht
