/-
  Plain laws, no program in sight: lists of deltas (chapter 41).
-/
import Derived.Test.YtncgihbnfmpdbaaSnP
set_option linter.unusedVariables false
set_option linter.unusedSimpArgs false
namespace Go.Proofs.Ytncgihbnfmpdbaa.Sn
def Srt (l : List Dl) : Prop := l.Pairwise fun x y => x.b < y.b
theorem look_cons (d : Dl) (l : List Dl) (b : Int) : look (d :: l) b = if d.b = b then some d.s else look l b := by
  unfold look
  rw [List.find?_cons]
  by_cases h : d.b = b <;> simp [h]
theorem look_none {l : List Dl} {b : Int} (h : ∀ d ∈ l, ¬ d.b = b) : look l b = none := by
  unfold look
  rw [List.find?_eq_none.2 (by intro x hx; simpa using h x hx)]; rfl
theorem look_mem {l : List Dl} {b : Int} {s : ByteArray} (h : look l b = some s) : ∃ d ∈ l, d.b = b ∧ d.s = s := by
  unfold look at h
  cases hf : l.find? (fun d => decide (d.b = b)) with
  | none => rw [hf] at h; cases h
  | some d =>
    rw [hf] at h
    have := List.find?_some hf
    exact ⟨d, List.mem_of_find?_eq_some hf, by simpa using this, by simpa using h⟩
theorem look_of {l : List Dl} (hs : Srt l) {d : Dl} (hd : d ∈ l) : look l d.b = some d.s := by
  induction l with
  | nil => cases hd
  | cons e l ih =>
    rw [look_cons]
    have h := List.pairwise_cons.1 hs
    rcases List.mem_cons.1 hd with rfl | hd
    · rw [if_pos rfl]
    · have := h.1 d hd
      rw [if_neg (by omega)]
      exact ih h.2 hd
theorem look_app (l m : List Dl) (b : Int) : look (l ++ m) b = match look l b with | some s => some s | none => look m b := by
  induction l with
  | nil => rfl
  | cons d l ih =>
    rw [List.cons_append, look_cons, look_cons]
    by_cases h : d.b = b
    · rw [if_pos h, if_pos h]
    · rw [if_neg h, if_neg h]; exact ih
/-- Two sorted lists that say the same are the same. -/
theorem ds_ext : ∀ (l m : List Dl), Srt l → Srt m → (∀ b, look l b = look m b) → l = m
  | [], [], _, _, _ => rfl
  | [], e :: m, _, hm, h => by
    have := h e.b
    rw [look_cons, if_pos rfl] at this
    cases this
  | d :: l, [], hl, _, h => by
    have := h d.b
    rw [look_cons, if_pos rfl] at this
    cases this
  | d :: l, e :: m, hl, hm, h => by
    have h1 := List.pairwise_cons.1 hl
    have h2 := List.pairwise_cons.1 hm
    have hb : d.b = e.b := by
      rcases Int.lt_trichotomy d.b e.b with c | c | c
      · have := h d.b
        rw [look_cons, if_pos rfl, look_none (l := e :: m)] at this
        · cases this
        · intro x hx
          rcases List.mem_cons.1 hx with rfl | hx
          · omega
          · have := h2.1 x hx; omega
      · exact c
      · have := h e.b
        rw [look_cons e, if_pos rfl, look_none (l := d :: l)] at this
        · cases this
        · intro x hx
          rcases List.mem_cons.1 hx with rfl | hx
          · omega
          · have := h1.1 x hx; omega
    have hsd : d.s = e.s := by
      have := h d.b
      rw [look_cons, if_pos rfl, look_cons, if_pos hb.symm] at this
      injection this
    have hde : d = e := by cases d; cases e; simp at hb hsd; subst hb hsd; rfl
    subst hde
    congr 1
    refine ds_ext l m h1.2 h2.2 fun b => ?_
    by_cases c : d.b = b
    · subst c
      rw [look_none, look_none]
      · intro x hx; have := h2.1 x hx; omega
      · intro x hx; have := h1.1 x hx; omega
    · have := h b
      rw [look_cons, look_cons, if_neg c, if_neg c] at this
      exact this
theorem srt_filter {l : List Dl} (h : Srt l) (p : Dl → Bool) : Srt (l.filter p) := h.sublist List.filter_sublist
theorem below_mem {l : List Dl} {b : Int} {d : Dl} : d ∈ below l b ↔ d ∈ l ∧ d.b < b := by unfold below; rw [List.mem_filter]; simp
theorem above_mem {l : List Dl} {b : Int} {d : Dl} : d ∈ above l b ↔ d ∈ l ∧ b < d.b := by unfold above; rw [List.mem_filter]; simp
theorem putD_srt {l : List Dl} (h : Srt l) (b : Int) (s : ByteArray) (is : Bool) : Srt (putD l b s is) := by
  unfold putD Srt
  refine List.pairwise_append.2 ⟨List.pairwise_append.2 ⟨srt_filter h _, ?_, ?_⟩, srt_filter h _, ?_⟩
  · cases is <;> simp
  · intro x hx y hy
    have := (below_mem.1 hx).2
    cases is
    · simp at hy
    · simp only [if_true, List.mem_singleton] at hy; subst hy; exact this
  · intro x hx y hy
    have h2 := (above_mem.1 hy).2
    rcases List.mem_append.1 hx with hx | hx
    · have := (below_mem.1 hx).2; omega
    · cases is
      · simp at hx
      · simp only [if_true, List.mem_singleton] at hx; subst hx; exact h2
theorem look_filter {l : List Dl} (h : Srt l) (p : Dl → Bool) (b : Int) : look (l.filter p) b = match look l b with | some s => if p ⟨b, s⟩ then some s else none | none => none := by
  induction l with
  | nil => rfl
  | cons d l ih =>
    have h1 := List.pairwise_cons.1 h
    rw [look_cons, List.filter_cons]
    by_cases c : d.b = b
    · subst c
      rw [if_pos rfl]
      simp only
      have hd : (⟨d.b, d.s⟩ : Dl) = d := rfl
      rw [hd]
      by_cases hp : p d = true
      · rw [if_pos hp, if_pos hp, look_cons, if_pos rfl]
      · rw [if_neg hp, if_neg hp]
        exact look_none fun x hx => by have := h1.1 x (List.mem_filter.1 hx).1; omega
    · rw [if_neg c]
      by_cases hp : p d = true
      · rw [if_pos hp, look_cons, if_neg c]; exact ih h1.2
      · rw [if_neg hp]; exact ih h1.2
theorem putD_look {l : List Dl} (h : Srt l) (b c : Int) (s : ByteArray) (is : Bool) : look (putD l b s is) c = if c = b then (if is then some s else none) else look l c := by
  unfold putD
  rw [look_app, look_app]
  unfold below above
  rw [look_filter h, look_filter h]
  by_cases e : c = b
  · subst e
    rw [if_pos rfl]
    cases is
    · cases look l c <;> simp [look]
    · cases look l c <;> simp [look_cons]
  · rw [if_neg e]
    have h3 : look (if is = true then [⟨b, s⟩] else []) c = none := by
      cases is
      · rfl
      · simp only [if_true]; rw [look_cons, if_neg (by simp; exact fun q => e q.symm)]; rfl
    rw [h3]
    cases look l c with
    | none => rfl
    | some s' =>
      simp only
      rcases Int.lt_or_gt_of_ne e with g | g
      · simp [g]
      · have : ¬ c < b := by omega
        simp [this, g]
/-- The deltas of a child, completed by those of its old parent. -/
def merge : List Dl → List Dl → List Dl
  | [], p => p
  | c, [] => c
  | c :: cs, p :: ps => if c.b < p.b then c :: merge cs (p :: ps) else if p.b < c.b then p :: merge (c :: cs) ps else c :: merge cs ps
termination_by c p => c.length + p.length
theorem merge_mem : ∀ (c p : List Dl) (d : Dl), d ∈ merge c p → d ∈ c ∨ d ∈ p
  | [], p, d, h => by rw [merge] at h; exact .inr h
  | c :: cs, [], d, h => by rw [merge] at h; exact .inl h; simp
  | c :: cs, p :: ps, d, h => by
    rw [merge] at h
    split at h
    · rcases List.mem_cons.1 h with rfl | h
      · exact .inl List.mem_cons_self
      · rcases merge_mem cs (p :: ps) d h with h | h
        · exact .inl (List.mem_cons_of_mem _ h)
        · exact .inr h
    · split at h
      · rcases List.mem_cons.1 h with rfl | h
        · exact .inr List.mem_cons_self
        · rcases merge_mem (c :: cs) ps d h with h | h
          · exact .inl h
          · exact .inr (List.mem_cons_of_mem _ h)
      · rcases List.mem_cons.1 h with rfl | h
        · exact .inl List.mem_cons_self
        · rcases merge_mem cs ps d h with h | h
          · exact .inl (List.mem_cons_of_mem _ h)
          · exact .inr (List.mem_cons_of_mem _ h)
termination_by c p => c.length + p.length
theorem merge_srt : ∀ (c p : List Dl), Srt c → Srt p → Srt (merge c p)
  | [], p, _, h => by rw [merge]; exact h
  | c :: cs, [], h, _ => by rw [merge]; exact h; simp
  | c :: cs, p :: ps, h1, h2 => by
    have g1 := List.pairwise_cons.1 h1
    have g2 := List.pairwise_cons.1 h2
    rw [merge]
    split
    · rename_i e
      refine List.pairwise_cons.2 ⟨fun d hd => ?_, merge_srt cs (p :: ps) g1.2 h2⟩
      rcases merge_mem _ _ d hd with hd | hd
      · exact g1.1 d hd
      · rcases List.mem_cons.1 hd with rfl | hd
        · exact e
        · have := g2.1 d hd; omega
    · split
      · rename_i e
        refine List.pairwise_cons.2 ⟨fun d hd => ?_, merge_srt (c :: cs) ps h1 g2.2⟩
        rcases merge_mem _ _ d hd with hd | hd
        · rcases List.mem_cons.1 hd with rfl | hd
          · exact e
          · have := g1.1 d hd; omega
        · exact g2.1 d hd
      · refine List.pairwise_cons.2 ⟨fun d hd => ?_, merge_srt cs ps g1.2 g2.2⟩
        rcases merge_mem _ _ d hd with hd | hd
        · exact g1.1 d hd
        · have := g2.1 d hd; omega
termination_by c p => c.length + p.length
theorem merge_look : ∀ (c p : List Dl) (b : Int), Srt c → Srt p → look (merge c p) b = match look c b with | some s => some s | none => look p b
  | [], p, b, _, _ => by rw [merge]; rfl
  | c :: cs, [], b, _, _ => by
    rw [merge]
    · cases look (c :: cs) b <;> rfl
    · simp
  | c :: cs, p :: ps, b, h1, h2 => by
    have g1 := List.pairwise_cons.1 h1
    have g2 := List.pairwise_cons.1 h2
    rw [merge]
    split
    · rename_i e
      rw [look_cons, look_cons, merge_look cs (p :: ps) b g1.2 h2]
      by_cases q : c.b = b
      · rw [if_pos q, if_pos q]
      · rw [if_neg q, if_neg q]
    · split
      · rename_i e
        rw [look_cons, merge_look (c :: cs) ps b h1 g2.2, look_cons p ps]
        by_cases q : p.b = b
        · rw [if_pos q, if_pos q, look_none (l := c :: cs)]
          intro d hd
          rcases List.mem_cons.1 hd with rfl | hd
          · omega
          · have := g1.1 d hd; omega
        · rw [if_neg q, if_neg q]
      · rw [look_cons, look_cons, look_cons, merge_look cs ps b g1.2 g2.2]
        by_cases q : c.b = b
        · rw [if_pos q, if_pos q]
        · rw [if_neg q, if_neg q, if_neg (by omega)]
termination_by c p => c.length + p.length
end Go.Proofs.Ytncgihbnfmpdbaa.Sn
