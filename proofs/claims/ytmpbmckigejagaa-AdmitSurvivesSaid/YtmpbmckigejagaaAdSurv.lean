/-
  Plain law: a placement that survives, behind the crash of a host (chapter 39).
-/
import Derived.Test.YtmpbmckigejagaaSv2
import Derived.Test.YtmpbmckigejagaaLaw39a
namespace Go.Proofs.Ytmpbmckigejagaa.Ad
set_option linter.unusedVariables false
/-- The hosts, one of them down. -/
def down (H : List Cap) (h : Nat) : List Cap := match H[h]? with | some c => H.set h ⟨c.m, c.c, false⟩ | none => H
theorem down_len (H : List Cap) (h : Nat) : (down H h).length = H.length := by unfold down; split <;> simp
theorem down_at {H : List Cap} {h : Nat} {c : Cap} (hc : H[h]? = some c) : (down H h)[h]? = some ⟨c.m, c.c, false⟩ := by
  have hl := (List.getElem?_eq_some_iff.1 hc).1
  unfold down; rw [hc]; simp [hl]
theorem down_ne {H : List Cap} {h k : Nat} (hk : k ≠ h) : (down H h)[k]? = H[k]? := by
  unfold down; split
  · rw [List.getElem?_set_ne (by omega)]
  · rfl
theorem upAt_down_self (H : List Cap) (h : Nat) : upAt (down H h) (h : Int) = false := by
  unfold upAt
  cases hc : H[h]? with
  | some c => rw [Int.toNat_natCast, down_at hc]; simp
  | none =>
    have : H.length ≤ h := List.getElem?_eq_none_iff.1 hc
    unfold there
    rw [down_len]; simp; omega
theorem survives_ok {H : List Cap} {L : List Pl} (h : survives H L = true) {i : Nat} {p : Pl} (hp : L[i]? = some p) : ∃ a b : Nat, p.a = a ∧ p.b = b ∧ a ≠ b ∧ ∃ m c m' c', H[a]? = some ⟨m, c, true⟩ ∧ H[b]? = some ⟨m', c', true⟩ := by
  unfold survives at h
  simp only [Bool.and_eq_true] at h
  have ho := List.all_eq_true.1 h.2.1 p (List.mem_of_getElem? hp)
  unfold ok1 at ho
  simp only [Bool.and_eq_true, decide_eq_true_eq] at ho
  obtain ⟨hne, ha, hb⟩ := ho
  obtain ⟨a, e1, _, m, c, h1⟩ := Law39.upAt_yes ha
  obtain ⟨b, e2, _, m', c', h2⟩ := Law39.upAt_yes hb
  exact ⟨a, b, e1, e2, by omega, m, c, m', c', h1, h2⟩
theorem fitTo_at {H : List Cap} {L : List Pl} : ∀ n, fitTo H L n = true → ∀ k, k < n → fitAt H L k = true
  | 0, _, k, hk => by omega
  | n + 1, h, k, hk => by
    rw [fitTo, Bool.and_eq_true] at h
    by_cases e : k = n
    · rw [e]; exact h.2
    · exact fitTo_at n h.1 k (by omega)
theorem survives_fit {H : List Cap} {L : List Pl} (h : survives H L = true) {k : Nat} {c : Cap} (hk : H[k]? = some c) : fits c.m c.c c.up (on L k) = true := by
  unfold survives at h
  simp only [Bool.and_eq_true] at h
  have := fitTo_at _ h.2.2 k (List.getElem?_eq_some_iff.1 hk).1
  unfold fitAt at this
  rw [hk] at this; exact this
theorem survives_down {H : List Cap} {L : List Pl} {h : Nat} (hn : 0 < (on L h).length) : survives (down H h) L = false := by
  obtain ⟨d, hd⟩ := List.exists_mem_of_length_pos hn
  unfold on at hd
  rw [List.mem_flatMap] at hd
  obtain ⟨p, hp, hd⟩ := hd
  have hab : p.a = (h : Int) ∨ p.b = (h : Int) := by
    unfold onOne at hd
    by_cases e1 : p.a = (h : Int)
    · exact .inl e1
    · by_cases e2 : p.b = (h : Int)
      · exact .inr e2
      · simp [e1, e2] at hd
  have ho : ok1 (down H h) p = false := by
    unfold ok1
    rcases hab with e | e <;> rw [e, upAt_down_self] <;> simp
  have : L.all (ok1 (down H h)) = false := by
    rw [List.all_eq_false]
    exact ⟨p, hp, by rw [ho]; simp⟩
  unfold survives
  rw [this]; simp
end Go.Proofs.Ytmpbmckigejagaa.Ad
