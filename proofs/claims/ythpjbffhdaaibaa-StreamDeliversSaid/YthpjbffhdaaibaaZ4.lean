/-
  A map of lists of positions, each list in a block of its own: what a window over a string remembers. (Over any program.)
  Contracts of compression (chapter 20), part A: the group of a window, the tokens of a run (both), the reference's match.
  Contracts of compression (chapter 20), part B: the window moves on, and finds the best match.
-/
import Derived.Test.YthpjbffhdaaibaaZ3
import Derived.Test.YthpjbffhdaaibaaZ1
import Derived.ArgAppend
import Derived.Maps.AppendAt
import Derived.Test.YthpjbffhdaaibaaZ2
import Derived.Lib.Strings
import Derived.Deep.RegionHeld3
import Derived.BigQuiet
import Derived.Deep.QuietTactic
import Derived.Outline
namespace Go.Proofs.Ythpjbffhdaaibaa.Win
open Go Go.ChangeMaps Go.MapKept Go.RowKit
set_option linter.unusedVariables false
/-- The slice v holds the numbers xs, in block b, from some cell on. -/
def Lst (e : TypeId) (w : World) (v : Value) (xs : List Nat) (b : Nat) : Prop :=
  ∃ off cap cells, v = .slice (some ⟨b, off, none⟩) xs.length cap ∧ w.heap[b]? = some (.cells cells e (0, 0)) ∧ xs.length ≤ cap ∧ cap ≤ maxLen ∧ off + cap ≤ cells.size ∧
    ∀ j (h : j < xs.length), cells[off + j]? = some (.int .i64 (xs[j] : Int))
/-- Behind w, w' has the same blocks but those of F. -/
structure Kept (F : Nat → Prop) (w w' : World) : Prop where
  os : w'.os = w.os
  tape : w'.tape = w.tape
  output : w'.output = w.output
  size : w.heap.size ≤ w'.heap.size
  block : ∀ b, b < w.heap.size → ¬ F b → w'.heap[b]? = w.heap[b]?
theorem Kept.refl (F : Nat → Prop) (w : World) : Kept F w w := ⟨rfl, rfl, rfl, Nat.le_refl _, fun _ _ _ => rfl⟩
theorem Kept.trans {F G : Nat → Prop} {a b c : World} (h : Kept F a b) (k : Kept G b c) (hG : ∀ x, G x → F x ∨ a.heap.size ≤ x) : Kept F a c :=
  ⟨k.os.trans h.os, k.tape.trans h.tape, k.output.trans h.output, Nat.le_trans h.size k.size, fun x hx hf => (k.block x (Nat.lt_of_lt_of_le hx h.size) (fun hg => by rcases hG x hg with h1 | h1; exact hf h1; omega)).trans (h.block x hx hf)⟩
theorem Kept.mono {F G : Nat → Prop} {a b : World} (h : Kept F a b) (hG : ∀ x, x < a.heap.size → F x → G x) : Kept G a b :=
  ⟨h.os, h.tape, h.output, h.size, fun x hx hf => h.block x hx (fun h1 => hf (hG x hx h1))⟩
theorem Kept.of_held {F : Nat → Prop} {a b : World} (h : Held a b) : Kept F a b := ⟨h.os, h.tape, h.output, h.size, fun x hx _ => h.block x hx⟩
theorem Kept.drewN {F : Nat → Prop} {a b : World} (h : Kept F a b) (n : Nat) : Kept F a (b.drewN n) := by
  cases n with
  | zero => exact h
  | succ n => exact ⟨h.os, h.tape, h.output, h.size, h.block⟩
theorem Kept.held {F : Nat → Prop} {W a b : World} (h : Kept F a b) (hw : Held W a) (hF : ∀ x, F x → W.heap.size ≤ x) : Held W b :=
  ⟨h.os.trans hw.os, h.tape.trans hw.tape, h.output.trans hw.output, Nat.le_trans hw.size h.size, fun x hx => (h.block x (Nat.lt_of_lt_of_le hx hw.size) (fun hf => by have := hF x hf; omega)).trans (hw.block x hx)⟩
theorem Kept.cell {F : Nat → Prop} {a b : World} (h : Kept F a b) {p : Addr} {v : Value} (hp : a.cell? p = some v) (hF : ¬ F p.block) : b.cell? p = some v := by
  rw [World.cell?_of_block (h.block p.block (lt_of_cell hp) hF)]; exact hp
theorem Lst.of_block {e : TypeId} {w w' : World} {v : Value} {xs : List Nat} {b : Nat} (h : Lst e w v xs b) (hb : w'.heap[b]? = w.heap[b]?) : Lst e w' v xs b := by
  obtain ⟨off, cap, cells, h1, h2, h3⟩ := h
  exact ⟨off, cap, cells, h1, hb.trans h2, h3⟩
theorem Lst.lt {e : TypeId} {w : World} {v : Value} {xs : List Nat} {b : Nat} (h : Lst e w v xs b) : b < w.heap.size := by
  obtain ⟨off, cap, cells, h1, h2, h3⟩ := h
  exact (Array.getElem?_eq_some_iff.1 h2).1
theorem lst_of_row {e : TypeId} {w : World} {base : Nat} {v : Value} {xs : List Nat} (hx : 0 < xs.length) (h : w.ownsRow base e 1 v xs.length (xs.map fun x : Nat => Value.int .i64 (x : Int))) : ∃ b, base ≤ b ∧ Lst e w v xs b ∧ v.ownBlock = some b := by
  rcases h.2 with ⟨rfl, h0⟩ | ⟨g, cap, cur, rfl, hg, hh, hn, hm, hc, ht⟩
  · omega
  · refine ⟨g, hg, ⟨0, cap, cur, rfl, hh, hn, hm, by omega, fun j hj => ?_⟩, rfl⟩
    have h1 : (cur.toList.take (xs.length * 1))[j]? = some (Value.int .i64 (xs[j] : Int)) := by
      rw [ht, List.getElem?_map, List.getElem?_eq_getElem hj]; rfl
    rw [List.getElem?_take, if_pos (by omega)] at h1
    rw [Nat.zero_add]
    simpa using h1
/-- 'append(v, x)'. -/
theorem app {Pr : Program} {w : World} {t ty e : TypeId} (ht : Pr.underlying t = some (.slice e)) (hi : (Pr.info? e).map (fun i => (i.zero, i.size, i.bytes)) = some (some (.int .i64 0), 1, 8))
    {v : Value} {xs : List Nat} (hv : (v = .slice none 0 0 ∧ xs = []) ∨ ∃ b, Lst e w v xs b) {x : Nat} {ad : Addr} {c : Nat} (hc : w.cell? ad = some (.int .i64 (x : Int))) (hl : xs.length < 1000000000000) :
    ∃ v' w' b', (Builtin.append_ #[t, t] ty #[v, .slice (some ad) 1 c]).run Pr w = .ok v' w' ∧ Lst e w' v' (xs ++ [x]) b' ∧ (w.heap.size ≤ b' ∨ v.ownBlock = some b') ∧ w.grownBy w' v.ownBlock := by
  obtain ⟨i0, hi0, hz0, hz1, hz2⟩ := info_parts hi
  have hnews : ∀ j u, ([Value.int .i64 (x : Int)])[j]? = some u → w.cell? (ad.add j) = some u := by
    intro j u hu
    match j, hu with
    | 0, hu => simp at hu; subst hu; simpa [Addr.add] using hc
    | j + 1, hu => simp at hu
  have h1 : ∀ u ∈ [Value.int .i64 (x : Int)], u.oneCell' = true := by simp [Value.oneCell']
  rcases hv with ⟨rfl, rfl⟩ | ⟨b, off, cap, cells, rfl, hb, hn, hm, ho, hcell⟩
  · obtain ⟨v', w', hr, hown, hg, _, _⟩ := run_append_own_at (P := Pr) w w.heap.size t ty e i0 (.int .i64 0) 1 8 ht hi0 hz0 hz1 hz2 rfl (by decide) (.slice none 0 0) 0 [] (World.ownsRow_nil _ _ _ _) ad 1 c [.int .i64 (x : Int)] rfl hnews h1 (by unfold maxLen; omega) (by omega) (Nat.le_refl _)
    obtain ⟨b, hb1, hb2, _⟩ := lst_of_row (xs := [x]) (by simp) hown
    exact ⟨v', w', b, hr, hb2, .inl hb1, hg⟩
  · by_cases hroom : xs.length + 1 ≤ cap
    · have hr := run_append_room_cells (P := Pr) (ty := ty) w t e i0 ht hi0 b off xs.length cap ad 1 c [.int .i64 (x : Int)] (by rw [hz1]; rfl) hnews h1 hroom
        (fun j hj => by
          simp only [List.length_singleton] at hj
          obtain rfl : j = 0 := by omega
          rw [hz1]
          have h2 : off + xs.length * 1 + 0 < cells.size := by omega
          simp only [World.cell?, hb]
          rw [Array.getElem?_eq_getElem h2]; rfl)
        (fun j hj => by simp [World.frozen?, hb])
      rw [hz1] at hr
      simp only [Nat.mul_one, World.setCells] at hr
      have hset : (w.setCell ⟨b, off + xs.length, none⟩ (.int .i64 (x : Int))).heap[b]? = some (.cells (cells.setIfInBounds (off + xs.length) (.int .i64 (x : Int))) e (0, 0)) := by
        simp only [World.setCell]
        rw [Array.getElem?_modify, if_pos rfl, hb]; rfl
      refine ⟨_, _, b, hr, ?_, .inr rfl, ?_⟩
      · refine ⟨off, cap, _, by simp, hset, by simpa using hroom, hm, by simpa using ho, fun j hj => ?_⟩
        rw [List.length_append, List.length_singleton] at hj
        rw [Array.getElem?_setIfInBounds]
        by_cases hjx : j = xs.length
        · subst hjx
          rw [if_pos rfl, if_pos (by omega)]
          simp
        · rw [if_neg (by omega), hcell j (by omega), List.getElem_append_left (by omega)]
      · refine ⟨rfl, rfl, rfl, by simp [World.setCell], fun k hk hne => ?_⟩
        simp only [World.setCell]
        rw [Array.getElem?_modify, if_neg]
        intro e
        subst e
        exact hne rfl
    · obtain ⟨v', w', hr, hown, hg⟩ := run_append_arg_grows (P := Pr) (ty := ty) w t e i0 (.int .i64 0) 1 8 ht hi0 hz0 hz1 hz2 rfl (by decide) ⟨b, off, none⟩ xs.length cap (xs.map fun x : Nat => Value.int .i64 (x : Int)) (by simp)
        (fun j u hu => by
          rw [List.getElem?_map] at hu
          rcases hx : xs[j]? with _ | y
          · rw [hx] at hu; cases hu
          · rw [hx] at hu
            injection hu with hu
            subst hu
            obtain ⟨hj, rfl⟩ := List.getElem?_eq_some_iff.1 hx
            have := hcell j hj
            rw [Addr.add_lit]
            simp only [World.cell?, hb]
            exact this)
        ad 1 c [.int .i64 (x : Int)] rfl hnews (by omega) (by unfold maxLen; omega) (by omega)
      obtain ⟨b', hb1, hb2, _⟩ := lst_of_row (xs := xs ++ [x]) (by simp) (by simpa using hown)
      exact ⟨v', w', b', hr, hb2, .inl hb1, ⟨hg.os, hg.tape, hg.output, hg.size, fun k hk _ => hg.block k hk (by simp)⟩⟩
theorem keyEq {k k' : ByteArray} (h : k.data.toList = k'.data.toList) : k = k' := by
  cases k; cases k'; simp at h; rw [h]
/-- Block m is a map of lists of positions: at the key k the list P k (none where that is empty); all that it uses lies in the blocks F. -/
structure Is (e : TypeId) (w : World) (m : Nat) (F : Nat → Prop) (P : List UInt8 → List Nat) (es : Array MapEntry) (clock : Nat) (V : ByteArray → Option (Value × Nat)) : Prop where
  own : F m
  lt : ∀ b, F b → b < w.heap.size
  blk : w.heap[m]? = some (.map es clock)
  ent : Sm.Ent es (fun k => (V k).map (·.1))
  nokey : ∀ k, V k = none → P k.data.toList = []
  atkey : ∀ k v b, V k = some (v, b) → P k.data.toList ≠ [] ∧ F b ∧ Lst e w v (P k.data.toList) b
  apart : ∀ k k' v v' b, V k = some (v, b) → V k' = some (v', b) → k = k'
def val (V : ByteArray → Option (Value × Nat)) (k : ByteArray) : Value := ((V k).map (·.1)).getD (.slice none 0 0)
namespace Is
variable {e : TypeId} {w : World} {m : Nat} {F : Nat → Prop} {P : List UInt8 → List Nat} {es : Array MapEntry} {clock : Nat} {V : ByteArray → Option (Value × Nat)}
theorem kept {G : Nat → Prop} {w' : World} (h : Is e w m F P es clock V) (k : Kept G w w') (hG : ∀ b, F b → ¬ G b) : Is e w' m F P es clock V :=
  ⟨h.own, fun b hb => Nat.lt_of_lt_of_le (h.lt b hb) k.size, (k.block m (h.lt m h.own) (hG m h.own)).trans h.blk, h.ent, h.nokey,
    fun x v b hv => ⟨(h.atkey x v b hv).1, (h.atkey x v b hv).2.1, (h.atkey x v b hv).2.2.of_block (k.block b (h.lt b (h.atkey x v b hv).2.1) (hG b (h.atkey x v b hv).2.1))⟩, h.apart⟩
theorem held {w' : World} (h : Is e w m F P es clock V) (k : Held w w') : Is e w' m F P es clock V := h.kept (G := fun _ => False) (Kept.of_held k) (fun _ _ h => h)
theorem look {Pr : Program} {kt t st : TypeId} (hk : Pr.underlying kt = some .string) (ht : Pr.underlying t = some (.map kt st)) (hz : ∀ w, (zeroValue st).run Pr w = .ok (.slice none 0 0) w) (h : Is e w m F P es clock V) (k : ByteArray) (hs : k.size ≤ maxLen) {w' : World} (hw : w'.heap[m]? = w.heap[m]?) :
    (Instr.lookup t (.map (some m)) (.string k) false).run Pr w' = .ok (val V k) w' :=
  Sm.look hk ht (hz w') (hw.trans h.blk) h.ent k hs
theorem val_is (h : Is e w m F P es clock V) (k : ByteArray) : (val V k = .slice none 0 0 ∧ P k.data.toList = [] ∧ V k = none) ∨ ∃ b, V k = some (val V k, b) ∧ F b ∧ P k.data.toList ≠ [] ∧ Lst e w (val V k) (P k.data.toList) b := by
  rcases hv : V k with _ | ⟨v, b⟩
  · exact .inl ⟨by simp [val, hv], h.nokey k hv, rfl⟩
  · have := h.atkey k v b hv
    have e1 : val V k = v := by simp [val, hv]
    rw [e1]
    exact .inr ⟨b, rfl, this.2.1, this.1, this.2.2⟩
def up (P : List UInt8 → List Nat) (k : List UInt8) (l : List Nat) : List UInt8 → List Nat := fun k' => if k' = k then l else P k'
/-- A store at k of a slice that holds l, in the block that k had or in a new one; all other blocks of the map's as they were. -/
theorem put {w' : World} (h : Is e w m F P es clock V) (k : ByteArray) {v : Value} {l : List Nat} {b : Nat} (hl : l ≠ []) (hv : Lst e w' v l b) (hb : w.heap.size ≤ b ∨ ∃ v0, V k = some (v0, b)) (hg : Kept (fun x => some x = (val V k).ownBlock) w w')
    {es' : Array MapEntry} {clock' : Nat} (hent : Sm.Ent es' (Sm.upd (fun k => (V k).map (·.1)) k (some v))) :
    Is e (setBlock w' m (.map es' clock')) m (fun x => F x ∨ x = b) (up P k.data.toList l) es' clock' (fun k' => if k' = k then some (v, b) else V k') := by
  have hmw : ¬ some m = (val V k).ownBlock := by
    intro e1
    rcases h.val_is k with ⟨h1, _⟩ | ⟨b1, h1, _, _, h2⟩
    · rw [h1] at e1; cases e1
    · obtain ⟨off, cap, cells, h3, h4, _⟩ := h2
      rw [h3] at e1
      injection e1 with e1
      subst e1
      rw [h.blk] at h4; cases h4
  have hm' : w'.heap[m]? = some (.map es clock) := (hg.block m (h.lt m h.own) hmw).trans h.blk
  have hother : ∀ i, i ≠ m → (setBlock w' m (.map es' clock')).heap[i]? = w'.heap[i]? := fun i hi => heap_setBlock_other hm' _ hi
  have hbm : b ≠ m := by
    rintro rfl
    obtain ⟨off, cap, cells, h3, h4, _⟩ := hv
    rw [hm'] at h4; cases h4
  have hsz : (setBlock w' m (.map es' clock')).heap.size = w'.heap.size := by simp [setBlock]
  have hown : ∀ k' v' b', V k' = some (v', b') → k' ≠ k → b' ≠ b ∧ ¬ some b' = (val V k).ownBlock := by
    intro k' v' b' hv' hne
    have hlt' := h.lt b' (h.atkey k' v' b' hv').2.1
    refine ⟨?_, ?_⟩
    · rintro rfl
      rcases hb with hb | ⟨v0, hb⟩
      · omega
      · exact hne (h.apart _ _ _ _ _ hv' hb)
    · intro e1
      rcases h.val_is k with ⟨h1, _⟩ | ⟨b1, h1, _, _, h2⟩
      · rw [h1] at e1; cases e1
      · obtain ⟨off, cap, cells, h3, h4, _⟩ := h2
        rw [h3] at e1
        injection e1 with e1
        subst e1
        exact hne (h.apart _ _ _ _ _ hv' h1)
  refine ⟨.inl h.own, ?_, heap_setBlock_same hm' _, ?_, ?_, ?_, ?_⟩
  · intro x hx
    rw [hsz]
    rcases hx with hx | rfl
    · exact Nat.lt_of_lt_of_le (h.lt x hx) hg.size
    · exact hv.lt
  · have e1 : (fun k' => ((if k' = k then some (v, b) else V k') : Option (Value × Nat)).map (·.1)) = Sm.upd (fun k => (V k).map (·.1)) k (some v) := by
      funext k'
      unfold Sm.upd
      split <;> rfl
    rw [e1]; exact hent
  · intro k' hv'
    split at hv'
    · cases hv'
    · rename_i hne
      unfold up
      rw [if_neg (fun e1 => hne (keyEq e1))]
      exact h.nokey k' hv'
  · intro k' v' b' hv'
    split at hv'
    · rename_i e1
      injection hv' with hv'
      injection hv' with h1 h2
      subst h1 h2 e1
      unfold up
      rw [if_pos rfl]
      exact ⟨hl, .inr rfl, hv.of_block (hother _ hbm)⟩
    · rename_i hne
      unfold up
      rw [if_neg (fun e1 => hne (keyEq e1))]
      have h1 := h.atkey k' v' b' hv'
      have h2 := hown k' v' b' hv' hne
      have hne' : b' ≠ m := by
        rintro rfl
        obtain ⟨off, cap, cells, h3, h4, _⟩ := h1.2.2
        rw [h.blk] at h4; cases h4
      exact ⟨h1.1, .inl h1.2.1, h1.2.2.of_block ((hother _ hne').trans (hg.block b' (h.lt b' h1.2.1) h2.2))⟩
  · intro k1 k2 v1 v2 b' h1 h2
    split at h1
    · rename_i e1
      injection h1 with h1
      injection h1 with h1 h1'
      subst h1'
      split at h2
      · rename_i e2; rw [e1, e2]
      · rename_i e2; exact absurd rfl (hown k2 v2 b h2 e2).1
    · rename_i e1
      split at h2
      · rename_i e2
        injection h2 with h2
        injection h2 with h2 h2'
        subst h2'
        exact absurd rfl (hown k1 v1 b h1 e1).1
      · exact h.apart _ _ _ _ _ h1 h2
/-- 'delete' at k. -/
theorem del (h : Is e w m F P es clock V) (k : ByteArray) {es' : Array MapEntry} (hent : Sm.Ent es' (Sm.upd (fun k => (V k).map (·.1)) k none)) :
    Is e (setBlock w m (.map es' clock)) m F (up P k.data.toList []) es' clock (fun k' => if k' = k then none else V k') := by
  have hother : ∀ i, i ≠ m → (setBlock w m (.map es' clock)).heap[i]? = w.heap[i]? := fun i hi => heap_setBlock_other h.blk _ hi
  refine ⟨h.own, fun x hx => by simpa [setBlock] using h.lt x hx, heap_setBlock_same h.blk _, ?_, ?_, ?_, ?_⟩
  · have e1 : (fun k' => ((if k' = k then none else V k') : Option (Value × Nat)).map (·.1)) = Sm.upd (fun k => (V k).map (·.1)) k none := by
      funext k'
      unfold Sm.upd
      split <;> rfl
    rw [e1]; exact hent
  · intro k' hv'
    unfold up
    split at hv'
    · rename_i e1; subst e1; rw [if_pos rfl]
    · rename_i hne
      rw [if_neg (fun e1 => hne (keyEq e1))]
      exact h.nokey k' hv'
  · intro k' v' b' hv'
    split at hv'
    · cases hv'
    · rename_i hne
      unfold up
      rw [if_neg (fun e1 => hne (keyEq e1))]
      have h1 := h.atkey k' v' b' hv'
      have hne' : b' ≠ m := by
        rintro rfl
        obtain ⟨off, cap, cells, h3, h4, _⟩ := h1.2.2
        rw [h.blk] at h4; cases h4
      exact ⟨h1.1, h1.2.1, h1.2.2.of_block (hother _ hne')⟩
  · intro k1 k2 v1 v2 b' h1 h2
    split at h1
    · cases h1
    · split at h2
      · cases h2
      · exact h.apart _ _ _ _ _ h1 h2
end Is
/-- .. the entries unnamed. -/
def Win (e : TypeId) (w : World) (m : Nat) (F : Nat → Prop) (P : List UInt8 → List Nat) : Prop := ∃ es clock V, Is e w m F P es clock V
theorem Win.congr {e : TypeId} {w : World} {m : Nat} {F : Nat → Prop} {P Q : List UInt8 → List Nat} (h : Win e w m F P) (hP : ∀ g, P g = Q g) : Win e w m F Q := by
  have : P = Q := funext hP
  rw [← this]; exact h
theorem Win.made {e : TypeId} (w : World) : Win e (w.alloc (.map #[] 0)) w.heap.size (fun b => b = w.heap.size) (fun _ => []) :=
  ⟨#[], 0, fun _ => none, rfl, fun b hb => by subst hb; simp, (MapKept.heap_alloc w _).1, Sm.ent_empty, fun _ _ => rfl, fun _ _ _ h => by (cases h), fun _ _ _ _ _ h => by (cases h)⟩
theorem kept_set {w : World} {m clock : Nat} {es : Array MapEntry} (h : w.heap[m]? = some (.map es clock)) (o : Obj) : Kept (fun x => x = m) w (setBlock w m o) :=
  ⟨rfl, rfl, rfl, by simp [setBlock], fun b _ hb => heap_setBlock_other h _ hb⟩
namespace Is
variable {e : TypeId} {w : World} {m : Nat} {F : Nat → Prop} {P : List UInt8 → List Nat} {es : Array MapEntry} {clock : Nat} {V : ByteArray → Option (Value × Nat)}
theorem val_block (h : Is e w m F P es clock V) (k : ByteArray) (b : Nat) (hb : some b = (val V k).ownBlock) : F b := by
  rcases h.val_is k with ⟨h1, _⟩ | ⟨b1, _, h2, _, off, cap, cells, h3, _⟩
  · rw [h1] at hb; cases hb
  · rw [h3] at hb
    injection hb with hb
    subst hb; exact h2
/-- 'm[k] = append(m[k], x)'. -/
theorem add {Pr : Program} {kt mt t ty : TypeId} (hk : Pr.underlying kt = some .string) (hm : Pr.underlying mt = some (.map kt t)) (ht : Pr.underlying t = some (.slice e)) (hi : (Pr.info? e).map (fun i => (i.zero, i.size, i.bytes)) = some (some (.int .i64 0), 1, 8))
    (h : Is e w m F P es clock V) (k : ByteArray) (hks : k.size ≤ maxLen) (x : Nat) {ad : Addr} {c : Nat} (hc : w.cell? ad = some (.int .i64 (x : Int))) (hl : (P k.data.toList).length < 1000000000000) :
    ∃ v' w2 w3 F3, (Builtin.append_ #[t, t] ty #[val V k, .slice (some ad) 1 c]).run Pr w = .ok v' w2 ∧ (Instr.mapUpdate mt (.map (some m)) (.string k) v').run Pr w2 = .ok () w3 ∧
      Win e w3 m F3 (up P k.data.toList (P k.data.toList ++ [x])) ∧ (∀ b, F3 b → F b ∨ w.heap.size ≤ b) ∧ Kept F w w2 ∧ Kept F w w3 := by
  have hv := h.val_is k
  obtain ⟨v', w2, b', hr, hl2, hb', hg⟩ := app (Pr := Pr) (ty := ty) (c := c) ht hi (v := val V k) (xs := P k.data.toList) (by rcases hv with ⟨h1, h2, _⟩ | ⟨b, _, _, _, h4⟩; exact .inl ⟨h1, h2⟩; exact .inr ⟨b, h4⟩) hc hl
  have hkw : Kept (fun x => some x = (val V k).ownBlock) w w2 := ⟨hg.os, hg.tape, hg.output, hg.size, fun b hb hn => hg.block b hb hn⟩
  have hkF : Kept F w w2 := hkw.mono (fun b _ hb => h.val_block k b hb)
  have hm2 : w2.heap[m]? = some (.map es clock) := by
    rw [hkw.block m (h.lt m h.own) ?_]
    · exact h.blk
    · intro e1
      rcases hv with ⟨h1, _⟩ | ⟨b1, _, _, _, off, cap, cells, h3, h4, _⟩
      · rw [h1] at e1; cases e1
      · rw [h3] at e1
        injection e1 with e1
        subst e1
        rw [h.blk] at h4; cases h4
  obtain ⟨es', clock', hst, hent⟩ := Sm.store hk hm hm2 h.ent k hks v'
  have hput := h.put (clock' := clock') k (v := v') (l := P k.data.toList ++ [x]) (b := b') (by simp) hl2 (by
    rcases hb' with hb' | hb'
    · exact .inl hb'
    · rcases hv with ⟨h1, _⟩ | ⟨b1, h2, _, _, off, cap, cells, h3, _⟩
      · rw [h1] at hb'; cases hb'
      · refine .inr ⟨val V k, ?_⟩
        rw [h3] at hb'
        injection hb' with hb'
        rw [← hb']; exact h2) hkw hent
  refine ⟨v', w2, _, _, hr, hst, ⟨_, _, _, hput⟩, ?_, hkF, ?_⟩
  · rintro b (hb | rfl)
    · exact .inl hb
    · rcases hb' with hb' | hb'
      · exact .inr hb'
      · exact .inl (h.val_block k b hb'.symm)
  · exact hkF.trans (kept_set hm2 _) (fun b hb => by subst hb; exact .inl h.own)
/-- 'm[k] = m[k][1:]', more than one element there. -/
theorem tail {Pr : Program} {kt mt t : TypeId} (hk : Pr.underlying kt = some .string) (hm : Pr.underlying mt = some (.map kt t)) (h : Is e w m F P es clock V) (k : ByteArray) (hks : k.size ≤ maxLen) (x : Nat) (xs : List Nat) (hP : P k.data.toList = x :: xs) (hne : xs ≠ []) :
    ∃ b off cap w3 F3, val V k = .slice (some ⟨b, off, none⟩) (xs.length + 1) cap ∧ xs.length + 1 ≤ cap ∧ cap ≤ maxLen ∧ (Instr.mapUpdate mt (.map (some m)) (.string k) (.slice (some ⟨b, off + 1, none⟩) xs.length (cap - 1))).run Pr w = .ok () w3 ∧
      Win e w3 m F3 (up P k.data.toList xs) ∧ (∀ b, F3 b → F b) ∧ Kept F w w3 := by
  rcases h.val_is k with ⟨_, h2, _⟩ | ⟨b, h1, h2, _, off, cap, cells, h3, h4, h5, h6, h7, h8⟩
  · rw [hP] at h2; cases h2
  · rw [hP] at h3 h5 h8
    obtain ⟨es', clock', hst, hent⟩ := Sm.store hk hm h.blk h.ent k hks (.slice (some ⟨b, off + 1, none⟩) xs.length (cap - 1))
    have hl : Lst e w (.slice (some ⟨b, off + 1, none⟩) xs.length (cap - 1)) xs b := by
      simp only [List.length_cons] at h5 h8
      refine ⟨off + 1, cap - 1, cells, rfl, h4, by omega, by omega, by omega, fun j hj => ?_⟩
      have := h8 (j + 1) (by omega)
      rw [show off + 1 + j = off + (j + 1) by omega]
      simpa using this
    have hput := h.put (clock' := clock') k (v := .slice (some ⟨b, off + 1, none⟩) xs.length (cap - 1)) (l := xs) (b := b) hne hl (.inr ⟨_, h1⟩) (Kept.refl _ _) hent
    refine ⟨b, off, cap, _, _, h3, by simpa using h5, h6, hst, ⟨_, _, _, hput⟩, ?_, (kept_set h.blk _).mono (fun x _ hx => by subst hx; exact h.own)⟩
    rintro b' (hb | rfl)
    · exact hb
    · exact h2
/-- 'delete(m, k)'. -/
theorem drop {Pr : Program} {kt mt t ty : TypeId} (hk : Pr.underlying kt = some .string) (hm : Pr.underlying mt = some (.map kt t)) (h : Is e w m F P es clock V) (k : ByteArray) (hks : k.size ≤ maxLen) :
    ∃ w3, (Builtin.delete_ #[mt, kt] ty #[.map (some m), .string k]).run Pr w = .ok (.tuple #[]) w3 ∧ Win e w3 m F (up P k.data.toList []) ∧ Kept F w w3 := by
  obtain ⟨es', hr, hent⟩ := Sm.del (ty := ty) hk hm h.blk h.ent k hks
  exact ⟨_, hr, ⟨_, _, _, h.del k hent⟩, (kept_set h.blk _).mono (fun x _ hx => by subst hx; exact h.own)⟩
end Is
end Go.Proofs.Ythpjbffhdaaibaa.Win

set_option linter.unusedVariables false
set_option maxRecDepth 100000
namespace Go.Proofs.Ythpjbffhdaaibaa
open Go.RowKit
open By
open Go.Lib (extract_data)
namespace Cp
theorem size_len (s : ByteArray) : s.data.toList.length = s.size := by simp
theorem ex_list (s : ByteArray) (a b : Nat) : (s.extract a b).data.toList = (s.data.toList.drop a).take (b - a) := extract_data s a b
theorem group_some (wb : Nat) (s : ByteArray) (i : Nat) (w : World) (hc : w.cell? ⟨wb, 0, none⟩ = some (.string s)) (hs : (s.size : Int) ≤ 1099511627776) (hi : i + 4 ≤ s.size) :
    Calls Try.prog 79 #[.pointer (some ⟨wb, 0, none⟩), .int .i64 i] w fun e w' => e = .returned (.tuple #[.string (s.extract i (i + 4)), .bool true]) ∧ w = w' := by
  have h1 : ¬ ((i : Int) < 0) := by omega
  go_enter Try.func79, Try.ntmps79
  go_wp2
  go_ret2
  exact ⟨rfl, rfl⟩
theorem group_none (wb : Nat) (s : ByteArray) (i : Int) (w : World) (hc : w.cell? ⟨wb, 0, none⟩ = some (.string s)) (hs : (s.size : Int) ≤ 1099511627776) (hi : i < 0 ∨ (s.size : Int) < i + 4) (h1 : -1099511627776 ≤ i) (h2 : i ≤ 1099511627776) :
    Calls Try.prog 79 #[.pointer (some ⟨wb, 0, none⟩), .int .i64 i] w fun e w' => e = .returned (.tuple #[.string ⟨#[]⟩, .bool false]) ∧ w = w' := by
  by_cases h0 : i < 0
  · clear hi
    go_enter Try.func79, Try.ntmps79
    go_wp2
    go_ret2
    exact ⟨rfl, rfl⟩
  · have h3 : (s.size : Int) < i + 4 := by omega
    clear hi
    go_enter Try.func79, Try.ntmps79
    go_wp2
    go_ret2
    exact ⟨rfl, rfl⟩
theorem byte_n (n : Nat) (h1 : 1 ≤ n) (h2 : n ≤ 128) : (n : Int) - 1 = ((UInt8.ofNat (n - 1)).toNat : Int) := by
  simp [UInt8.toNat_ofNat']; omega
theorem min_eq1 (a b : Nat) : min a b = if b < a then b else a := by split <;> omega
/-- What a function leaves that appends to bytes of the call's own. -/
def Out (B : Nat) (v : Value) (L : List UInt8) (w : World) (e : Ending) (w' : World) : Prop := ∃ v', e = .returned v' ∧ w'.ownsRow B 5 1 v' L.length (by8 L) ∧ Win.Kept (fun x => some x = v.ownBlock) w w' ∧ Moved w v v'
theorem Out.mk {B : Nat} {v : Value} {L : List UInt8} {w w' : World} (v' : Value) {M : List UInt8} (hM : M = L) (h : w'.ownsRow B 5 1 v' M.length (by8 M)) (hk : Win.Kept (fun x => some x = v.ownBlock) w w') (hm : Moved w v v') : Out B v L w (.returned v') w' := by
  subst hM; exact ⟨v', rfl, h, hk, hm⟩
theorem grown_kept {w wr w1 : World} {v u v1 : Value} {o : Obj} (hk : Win.Kept (fun x => some x = v.ownBlock) w wr) (hm : Moved w v u) (hg : (wr.alloc o).grownBy w1 u.ownBlock) (hm1 : Moved (wr.alloc o) u v1) : Win.Kept (fun x => some x = v.ownBlock) w w1 ∧ Moved w v v1 := by
  have hs := hk.size
  refine ⟨⟨hg.os.trans hk.os, hg.tape.trans hk.tape, hg.output.trans hk.output, by have := hg.size; simp at this; omega, fun b hb hne => ?_⟩, hm.trans hm1 (by simp; omega)⟩
  rw [hg.block b (by simp; omega) ?_, ← hk.block b hb hne]
  · exact Below.heap_alloc wr o b (by omega)
  · intro e
    rcases hm b e.symm with h1 | h1
    · exact hne h1.symm
    · omega
theorem grown_kept0 {w wr w1 : World} {v u v1 : Value} (hk : Win.Kept (fun x => some x = v.ownBlock) w wr) (hm : Moved w v u) (hg : wr.grownBy w1 u.ownBlock) (hm1 : Moved wr u v1) : Win.Kept (fun x => some x = v.ownBlock) w w1 ∧ Moved w v v1 := by
  have hs := hk.size
  refine ⟨⟨hg.os.trans hk.os, hg.tape.trans hk.tape, hg.output.trans hk.output, by have := hg.size; omega, fun b hb hne => ?_⟩, hm.trans hm1 (by omega)⟩
  rw [hg.block b (by omega) ?_, ← hk.block b hb hne]
  intro e
  rcases hm b e.symm with h1 | h1
  · exact hne h1.symm
  · omega
theorem lits_any (v : Value) (l : List UInt8) (s : ByteArray) (w : World) (B : Nat) (hown : w.ownsRow B 5 1 v l.length (by8 l)) (hB : B ≤ w.heap.size) (hs : s.size ≤ 1099511627776) (hl : l.length ≤ 10995116277760) :
    Calls Try.prog 59 #[v, .string s] w (Out B v (l ++ lits s.data.toList) w) := by
  go_enter Try.func59, Try.ntmps59
  go_wp2
  go_loopw [0, 1] (fun o r wr => ∃ (m : List UInt8) (t : ByteArray), r = .string t ∧ t.size ≤ s.size ∧ m.length + 2 * t.size ≤ l.length + 2 * s.size ∧ m ++ lits t.data.toList = l ++ lits s.data.toList ∧ wr.ownsRow B 5 1 o m.length (by8 m) ∧ Win.Kept (fun x => some x = v.ownBlock) w wr ∧ Moved w v o)
    (fun _ r _ => match r with | .string t => t.size | _ => 0)
  case atStart => exact ⟨l, s, rfl, Nat.le_refl _, Nat.le_refl _, rfl, hown, Win.Kept.refl _ _, Moved.refl _ _⟩
  case round =>
    obtain ⟨m, t, rfl, ht, hm, he, hown1, hk, hmv⟩ := hrel
    have HE := Lib.hid he
    have HK := Lib.hid hk
    have HM := Lib.hid hmv
    have HO := Lib.hid hown1
    have hsz := hk.size
    clear he hk hmv
    have ht' : (t.size : Int) ≤ 1099511627776 := by omega
    by_cases h0 : t.size = 0
    · have h0' : ¬ (0 : Int) < (t.size : Int) := by omega
      have HF : Hid (m = l ++ lits s.data.toList) := by
        have h1 : t.data.toList = [] := List.eq_nil_of_length_eq_zero (by rw [size_len]; exact h0)
        have h2 := HE.out
        rw [h1, lits_nil, List.append_nil] at h2
        exact h2
      clear h0
      go_wp2
      go_ret
      exact Out.mk u0 HF.out HO.out HK.out HM.out
    · have h0' : (0 : Int) < (t.size : Int) := by omega
      have HL : Hid (∀ n, n = min 128 t.size → (m ++ [UInt8.ofNat (n - 1)] ++ (t.extract 0 n).data.toList) ++ lits (t.extract n t.size).data.toList = l ++ lits s.data.toList) := by
        intro n hn
        have h1 := lits_step (l := t.data.toList) (by rw [size_len]; omega)
        rw [size_len, ← hn] at h1
        rw [← HE.out, h1, ex_list, ex_list, List.drop_zero, Nat.sub_zero, List.take_of_length_le (l := t.data.toList.drop n) (by rw [List.length_drop, size_len]; omega)]
        simp
      have hb9 : ∀ n : Nat, n = min 128 t.size → 1 ≤ n ∧ n ≤ 128 ∧ n ≤ t.size := fun n hn => by omega
      by_cases hlt : (t.size : Int) < 128
      · go_wp2_with (first | (at_builtin; refine app_u8M _ rfl _ _ rfl B _ m [UInt8.ofNat (t.size - 1)] ⟨wr.heap.size, 0, none⟩ 1 1 rfl (hown1.alloc _) rfl rfl (one_cell _ _ _ (byte_n _ (by omega) (by omega)) _) (by omega) (by simp; omega) ?_; intro v1 w1 hown2 hg1 hm1) | (at_builtin; refine app_strM _ rfl _ _ rfl B _ (m ++ [UInt8.ofNat (t.size - 1)]) _ rfl hown2 rfl (by simp; omega) (by have := hg1.size; simp at this; omega) ?_; intro v2 w2 hown3 hg2 hm2))
        go_roundw
        case rel =>
          have g1 := grown_kept HK.out HM.out hg1 hm1
          have g2 := grown_kept0 g1.1 g1.2 hg2 hm2
          exact ⟨m ++ [UInt8.ofNat (t.size - 1)] ++ t.data.toList, ByteArray.empty, rfl, by simp, by simp; omega, by have h := HL.out t.size (by omega); simp at h ⊢; exact h, hown3, g2.1, g2.2⟩
        case measure => simp; omega
      · go_wp2_with (first | (at_builtin; refine app_u8M _ rfl _ _ rfl B _ m [UInt8.ofNat (128 - 1)] ⟨wr.heap.size, 0, none⟩ 1 1 rfl (hown1.alloc _) rfl rfl (one_cell _ _ _ (by decide) _) (by omega) (by simp; omega) ?_; intro v1 w1 hown2 hg1 hm1) | (at_builtin; refine app_strM _ rfl _ _ rfl B _ (m ++ [UInt8.ofNat (128 - 1)]) _ rfl hown2 rfl (by simp; omega) (by have := hg1.size; simp at this; omega) ?_; intro v2 w2 hown3 hg2 hm2))
        go_roundw
        case rel =>
          have g1 := grown_kept HK.out HM.out hg1 hm1
          have g2 := grown_kept0 g1.1 g1.2 hg2 hm2
          exact ⟨m ++ [UInt8.ofNat (128 - 1)] ++ (t.extract 0 128).data.toList, t.extract 128 t.size, rfl, by simp; omega, by simp; omega, HL.out _ (by omega), hown3, g2.1, g2.2⟩
        case measure => simp; omega
theorem held_grown {W w w1 : World} {v : Value} {e : TypeId} {size n : Nat} {xs : List Value} {o : Obj} (hb : Held W w) (hown : w.ownsRow W.heap.size e size v n xs) (hg : (w.alloc o).grownBy w1 v.ownBlock) : Held W w1 := below_app hb hb.size hown hg
theorem held_grown0 {W w w1 : World} {v : Value} {e : TypeId} {size n : Nat} {xs : List Value} (hb : Held W w) (hown : w.ownsRow W.heap.size e size v n xs) (hg : w.grownBy w1 v.ownBlock) : Held W w1 := by
  refine Below.grown hb hg hb.size ?_
  intro k hk
  obtain ⟨_, h⟩ := hown
  rcases h with ⟨rfl, _⟩ | ⟨g, cap, cur, rfl, hg', _⟩
  · simp [Value.ownBlock] at hk
  · simp [Value.ownBlock] at hk; omega
/-- How far the match at distance k goes: one step more. -/
theorem lcp_next {a b : List UInt8} {n : Nat} (h : n ≤ lcp a b) : n < lcp a b ↔ ∃ c, a[n]? = some c ∧ b[n]? = some c := by
  induction a generalizing b n with
  | nil => simp [lcp]
  | cons x a ih =>
    cases b with
    | nil => simp [lcp]
    | cons y b =>
      unfold lcp at h ⊢
      split at h
      · rename_i e
        subst e
        rw [if_pos rfl]
        cases n with
        | zero => simp
        | succ n =>
          have := ih (b := b) (n := n) (by omega)
          simp only [List.getElem?_cons_succ]
          rw [← this]; omega
      · rename_i e
        rw [if_neg e]
        obtain rfl : n = 0 := by omega
        simp only [Nat.lt_irrefl, List.getElem?_cons_zero, Option.some.injEq, false_iff]
        rintro ⟨c, rfl, h2⟩
        exact e h2.symm
theorem at_drop (s : ByteArray) (i n : Nat) (h : i + n < s.size) : (s.data.toList.drop i)[n]? = some s[i + n] := by
  rw [List.getElem?_drop, List.getElem?_eq_getElem (by simpa using h)]; rfl
/-- The test of the loops over a match: m bytes agree. -/
theorem more (s : ByteArray) (i k m : Nat) (hk : k ≤ i) (hk1 : 1 ≤ k) (h : i + m < s.size) (hm : m ≤ lcp (s.data.toList.drop i) (s.data.toList.drop (i - k))) :
    m < lcp (s.data.toList.drop i) (s.data.toList.drop (i - k)) ↔ s[i + m] = s[i - k + m] := by
  rw [lcp_next hm, at_drop s i m h, at_drop s (i - k) m (by omega)]
  constructor
  · rintro ⟨c, h1, h2⟩; injection h1 with h1; injection h2 with h2; rw [h1, h2]
  · intro e; exact ⟨_, rfl, by rw [e]⟩
theorem lcp_end (s : ByteArray) (i k m : Nat) (h : s.size ≤ i + m) (hm : m ≤ lcp (s.data.toList.drop i) (s.data.toList.drop (i - k))) : m = lcp (s.data.toList.drop i) (s.data.toList.drop (i - k)) := by
  have := lcp_le (s.data.toList.drop i) (s.data.toList.drop (i - k))
  rw [List.length_drop, size_len] at this; omega
theorem ret_two {a b c d : Int} (h : a = b) (h' : c = d) : Ending.returned (.tuple #[.int .i64 a, .int .i64 c]) = .returned (.tuple #[.int .i64 b, .int .i64 d]) := by rw [h, h']
theorem best_pos {s : List UInt8} {i j q : Nat} (hq : q = mlen s i (j + 1)) (h : (best s i j).2 < q) : best s i (j + 1) = (j + 1, q) := by
  unfold best; rw [if_pos (by omega), hq]
theorem best_neg {s : List UInt8} {i j q : Nat} (hq : q = mlen s i (j + 1)) (h : ¬ (best s i j).2 < q) : best s i (j + 1) = best s i j := by
  conv => lhs; unfold best
  rw [if_neg (by omega)]
end Cp
end Go.Proofs.Ythpjbffhdaaibaa

set_option linter.unusedVariables false
set_option maxRecDepth 100000
namespace Go.Proofs.Ythpjbffhdaaibaa
open Go.RowKit
open By
namespace Cp
theorem group_key (wb : Nat) (s k : ByteArray) (i : Nat) (w : World) (hc : w.cell? ⟨wb, 0, none⟩ = some (.string s)) (hs : (s.size : Int) ≤ 1099511627776) (hi : i + 4 ≤ s.size) (hk : k = s.extract i (i + 4)) :
    Calls Try.prog 79 #[.pointer (some ⟨wb, 0, none⟩), .int .i64 i] w fun e w' => e = .returned (.tuple #[.string k, .bool true]) ∧ w = w' := by
  subst hk; exact group_some wb s i w hc hs hi
theorem group_key' (wb : Nat) (s k : ByteArray) (i : Int) (j : Nat) (w : World) (hc : w.cell? ⟨wb, 0, none⟩ = some (.string s)) (hs : (s.size : Int) ≤ 1099511627776) (hij : i = j) (hi : j + 4 ≤ s.size) (hk : k = s.extract j (j + 4)) :
    Calls Try.prog 79 #[.pointer (some ⟨wb, 0, none⟩), .int .i64 i] w fun e w' => e = .returned (.tuple #[.string k, .bool true]) ∧ w = w' := by
  subst hk; subst hij; exact group_some wb s j w hc hs hi
theorem occ_snoc (s g : List UInt8) (lo n : Nat) : occ s g lo (n + 1) = occ s g lo n ++ if grp s (lo + n) = some g then [lo + n] else [] := by
  unfold occ
  rw [List.range'_concat, List.filter_append, Nat.one_mul]
  congr 1
  by_cases h : grp s (lo + n) = some g
  · rw [if_pos h, List.filter_cons, if_pos (by simpa using h)]; rfl
  · rw [if_neg h, List.filter_cons, if_neg (by simpa using h)]; rfl
theorem occ_head (s g : List UInt8) (lo n : Nat) : occ s g lo (n + 1) = (if grp s lo = some g then [lo] else []) ++ occ s g (lo + 1) n := by
  unfold occ
  rw [List.range'_succ, List.filter_cons]
  by_cases h : grp s lo = some g
  · rw [if_pos h, if_pos (by simpa using h)]; rfl
  · rw [if_neg h, if_neg (by simpa using h)]; rfl
/-- What the window holds when n has been added and before the eldest goes. -/
def mid (s g : List UInt8) (n : Nat) : List Nat := occ s g (n - 255) (n + 1 - (n - 255))
theorem mid_add (s g : List UInt8) (n : Nat) : mid s g n = pos s g n ++ if grp s n = some g then [n] else [] := by
  unfold mid pos
  rw [show n + 1 - (n - 255) = (n - (n - 255)) + 1 by omega, occ_snoc, show n - 255 + (n - (n - 255)) = n by omega]
theorem mid_old (s g : List UInt8) (n : Nat) (h : 255 ≤ n) : mid s g n = (if grp s (n - 255) = some g then [n - 255] else []) ++ pos s g (n + 1) := by
  unfold mid pos
  rw [show n + 1 - (n - 255) = 255 + 1 by omega, occ_head, show n - 255 + 1 = n + 1 - 255 by omega, show n + 1 - (n + 1 - 255) = 255 by omega]
theorem mid_new (s g : List UInt8) (n : Nat) (h : n < 255) : mid s g n = pos s g (n + 1) := by
  unfold mid pos
  rw [show n - 255 = n + 1 - 255 by omega]
theorem pos_zero (s g : List UInt8) : pos s g 0 = [] := rfl
theorem pos_len (s g : List UInt8) (n : Nat) : (pos s g n).length ≤ 255 := by
  unfold pos occ
  refine Nat.le_trans (List.length_filter_le _ _) ?_
  rw [List.length_range']; omega
theorem up_mid {s g0 : List UInt8} {n : Nat} (h : grp s n = some g0) (g : List UInt8) : Win.Is.up (fun g => pos s g n) g0 (pos s g0 n ++ [n]) g = mid s g n := by
  unfold Win.Is.up
  rw [mid_add]
  by_cases e : g = g0
  · subst e; rw [if_pos rfl, if_pos h]
  · rw [if_neg e, if_neg (by rw [h]; intro e1; injection e1 with e1; exact e e1.symm), List.append_nil]
theorem none_mid {s : List UInt8} {n : Nat} (h : grp s n = none) (g : List UInt8) : pos s g n = mid s g n := by
  rw [mid_add, if_neg (by rw [h]; intro e; cases e), List.append_nil]
theorem up_old {s g1 : List UInt8} {n : Nat} (hn : 255 ≤ n) (h : grp s (n - 255) = some g1) (g : List UInt8) : Win.Is.up (fun g => mid s g n) g1 (pos s g1 (n + 1)) g = pos s g (n + 1) := by
  unfold Win.Is.up
  by_cases e : g = g1
  · subst e; rw [if_pos rfl]
  · rw [if_neg e]
    show mid s g n = _
    rw [mid_old s g n hn, if_neg (by rw [h]; intro e1; injection e1 with e1; exact e e1.symm), List.nil_append]
theorem grp_ex (s : ByteArray) (i : Nat) (h : i + 4 ≤ s.size) : grp s.data.toList i = some (s.extract i (i + 4)).data.toList := by
  unfold grp
  rw [if_pos (by rw [size_len]; exact h), ex_list, show i + 4 - i = 4 by omega]
theorem grp_no (s : ByteArray) (i : Nat) (h : s.size < i + 4) : grp s.data.toList i = none := by
  unfold grp
  rw [if_neg (by rw [size_len]; omega)]
/-- The window over s, that has come to position i: its own block wb, the map m. -/
structure Mv (wb m : Nat) (s : ByteArray) (F : Nat → Prop) (w0 : World) (i : Nat) (P : List UInt8 → List Nat) (w : World) : Prop where
  blk : w.heap[wb]? = some (.cells #[.string s, .map (some m), .int .i64 (i : Int)] 112 (0, 0))
  win : ∃ F', Win.Win 3 w m F' P ∧ ∀ b, F' b → F b ∨ w0.heap.size ≤ b
  kept : Win.Kept (fun b => F b ∨ b = wb) w0 w
namespace Mv
variable {wb m i : Nat} {s : ByteArray} {F : Nat → Prop} {w0 w : World} {P : List UInt8 → List Nat}
theorem cells (h : Mv wb m s F w0 i P w) : w.cell? ⟨wb, 0, none⟩ = some (.string s) ∧ w.cell? ⟨wb, 1, none⟩ = some (.map (some m)) ∧ w.cell? ⟨wb, 2, none⟩ = some (.int .i64 (i : Int)) ∧ w.frozen? ⟨wb, 2, none⟩ = false := by
  have := h.blk
  exact ⟨by simp [World.cell?, this], by simp [World.cell?, this], by simp [World.cell?, this], by simp [World.frozen?, this]⟩
theorem lt (h : Mv wb m s F w0 i P w) : wb < w.heap.size := (Array.getElem?_eq_some_iff.1 h.blk).1
theorem held {w' : World} (h : Mv wb m s F w0 i P w) (k : Held w w') : Mv wb m s F w0 i P w' := by
  obtain ⟨F', ⟨es, c, V, h1⟩, h2⟩ := h.win
  exact ⟨(k.block wb h.lt).trans h.blk, ⟨F', ⟨es, c, V, h1.held k⟩, h2⟩, h.kept.trans (G := fun _ => False) (Win.Kept.of_held k) (fun _ h => absurd h (fun h => h))⟩
theorem step {w' : World} {F' G : Nat → Prop} {Q : List UInt8 → List Nat} (h : Mv wb m s F w0 i P w) (hF : ¬ F wb) (hw : wb < w0.heap.size) (hF' : ∀ b, F' b → F b ∨ w0.heap.size ≤ b) (k : Win.Kept F' w w') (hwin : Win.Win 3 w' m G Q) (hG : ∀ b, G b → F b ∨ w0.heap.size ≤ b) : Mv wb m s F w0 i Q w' :=
  ⟨(k.block wb h.lt (fun hb => by rcases hF' wb hb with h1 | h1; exact hF h1; omega)).trans h.blk, ⟨G, hwin, hG⟩, h.kept.trans k (fun b hb => (hF' b hb).imp .inl id)⟩
theorem congr {Q : List UInt8 → List Nat} (h : Mv wb m s F w0 i P w) (hP : ∀ g, P g = Q g) : Mv wb m s F w0 i Q w := by
  have : P = Q := funext hP
  rw [← this]; exact h
theorem next (h : Mv wb m s F w0 i P w) (hF : ¬ F wb) (hw : wb < w0.heap.size) : Mv wb m s F w0 (i + 1) P (w.setCell ⟨wb, 2, none⟩ (.int .i64 ((i : Int) + 1))) := by
  have hset : (w.setCell ⟨wb, 2, none⟩ (.int .i64 ((i : Int) + 1))).heap[wb]? = some (.cells #[.string s, .map (some m), .int .i64 ((i + 1 : Nat) : Int)] 112 (0, 0)) := by
    simp only [World.setCell]
    rw [Array.getElem?_modify, if_pos rfl, h.blk]; rfl
  have hk : Win.Kept (fun b => b = wb) w (w.setCell ⟨wb, 2, none⟩ (.int .i64 ((i : Int) + 1))) := by
    refine ⟨rfl, rfl, rfl, by simp [World.setCell], fun b hb hne => ?_⟩
    simp only [World.setCell]
    rw [Array.getElem?_modify, if_neg (fun e => hne e.symm)]
  obtain ⟨F', ⟨es, c, V, h1⟩, h2⟩ := h.win
  refine ⟨hset, ⟨F', ⟨es, c, V, h1.kept hk (fun b hb e => ?_)⟩, h2⟩, h.kept.trans hk (fun b hb => .inl (.inr hb))⟩
  subst e
  rcases h2 b hb with h3 | h3
  · exact hF h3
  · omega
end Mv
def nextOf (wb : Nat) (w : World) : Nat := match w.cell? ⟨wb, 2, none⟩ with | some (.int _ n) => n.toNat | _ => 0
theorem nextOf_eq {wb m i : Nat} {s : ByteArray} {F : Nat → Prop} {w0 w : World} {P : List UInt8 → List Nat} (h : Mv wb m s F w0 i P w) : nextOf wb w = i := by
  unfold nextOf; rw [h.cells.2.2.1]; simp
theorem info_int : (Try.prog.info? 3).map (fun i => (i.zero, i.size, i.bytes)) = some (some (.int .i64 0), 1, 8) := by kernel_rfl
theorem zero_ints (w : World) : (zeroValue 22).run Try.prog w = .ok (.slice none 0 0) w := by kernel_rfl
set_option maxHeartbeats 8000000 in
theorem move_any (wb m : Nat) (s : ByteArray) (F : Nat → Prop) (w : World) (i0 i : Nat) (hs : (s.size : Int) ≤ 1099511627776) (hF : ¬ F wb) (hi : i ≤ s.size) (h : Mv wb m s F w i0 (fun g => pos s.data.toList g i0) w) (h0 : i0 ≤ i) :
    Calls Try.prog 57 #[.pointer (some ⟨wb, 0, none⟩), .int .i64 i] w fun e w' => e = .returned (.tuple #[]) ∧ Mv wb m s F w i (fun g => pos s.data.toList g i) w' := by
  have hwb := h.lt
  go_enter Try.func57, Try.ntmps57
  go_wp2
  go_loopw [] (fun wr => ∃ n : Nat, n ≤ i ∧ Mv wb m s F w n (fun g => pos s.data.toList g n) wr) (fun wr => i - nextOf wb wr)
  case atStart => exact ⟨i0, h0, h⟩
  case round =>
    obtain ⟨n, hn, hm⟩ := hrel
    obtain ⟨c0, c1, c2, c3⟩ := hm.cells
    have HM := Lib.hid hm
    have HN := Lib.hid (nextOf_eq hm)
    clear hm h
    by_cases hlt : n < i
    · have hni' : (n : Int) < i := by omega
      have hsz : (n : Int) ≤ s.size := by omega
      by_cases hg : n + 4 ≤ s.size
      · obtain ⟨F', ⟨es, cl, V, hI⟩, hF'⟩ := HM.out.win
        obtain ⟨k, hk⟩ : ∃ k, k = s.extract n (n + 4) := ⟨_, rfl⟩
        have hks : k.size ≤ maxLen := by rw [hk]; unfold maxLen; simp; omega
        have hgk : grp s.data.toList n = some k.data.toList := by rw [hk]; exact grp_ex s n hg
        have hlk := fun (w' : World) (hw' : w'.heap[m]? = wr.heap[m]?) => hI.look (Pr := Try.prog) (kt := 9) (t := 110) Try.underlying9 Try.underlying110 zero_ints k hks hw'
        have hk1 := hlk wr.drew rfl
        have hk2 := hlk ((wr.alloc (.cells #[.int .i64 (n : Int)] 3)).drew) (Below.heap_alloc wr _ m (hI.lt m hI.own))
        have hk3 := hlk ((wr.drew.alloc (.cells #[.int .i64 (n : Int)] 3))) (Below.heap_alloc wr.drew _ m (hI.lt m hI.own))
        have ha := (hI.held (((Held.refl wr).alloc (.cells #[.int .i64 (n : Int)] 3)).drew)).add (Pr := Try.prog) (kt := 9) (mt := 110) (t := 22) (ty := 22) Try.underlying9 Try.underlying110 Try.underlying22 info_int k hks n (ad := ⟨wr.heap.size, 0, none⟩) (c := 1) (by simp) (by have := pos_len s.data.toList k.data.toList n; omega)
        obtain ⟨v', w2, w3, F3, hr2, hr3, hw3, hF3, hkp2, hkp3⟩ := ha
        have hw1 : Held wr (wr.alloc (.cells #[.int .i64 (n : Int)] 3)).drew := ((Held.refl wr).alloc _).drew
        have hFb : ¬ F' wb := fun hb => by rcases hF' wb hb with h1 | h1; exact hF h1; omega
        have p1 := hw1.cell c1
        have p2 := hw1.cell c2
        have q1 := hkp2.cell p1 hFb
        have q2 := hkp2.cell p2 hFb
        have t1 := hkp3.cell p1 hFb
        have t2 := hkp3.cell p2 hFb
        have HG := Lib.hid (group_key wb s k n wr c0 hs hg hk)
        have HP := Lib.hid hw3
        have HK := Lib.hid hgk
        have HI := Lib.hid hI
        clear hlk hk hw3 hgk hks hI
        go_wp2_with (go_at_call 79; refine HG.out.mono ?_; rintro e w' ⟨rfl, rfl⟩)
        go_region_held3 (fun w' => w'.cell? ⟨wb, 1, none⟩ = some (.map (some m)) ∧ w'.cell? ⟨wb, 2, none⟩ = some (.int .i64 (n : Int))) (first | exact ⟨c1, c2⟩ | exact ⟨p1, p2⟩ | exact ⟨q1, q2⟩ | exact ⟨t1, t2⟩) (refine By.step_run (by rfl) _ _ _ _ 22 (by rfl) (by rfl) (by rfl) (by rfl) hr2 ?_)
        all_goals
          have HX := Lib.hid ((HM.out.step hF hwb (F' := F') (G := F3) hF' ((Win.Kept.of_held hw1).trans hkp3 (fun _ h => .inl h)) HP.out (fun b hb => by
            rcases hF3 b hb with h1 | h1
            · exact hF' b h1
            · exact .inr (Nat.le_trans HM.out.kept.size (Nat.le_trans hw1.le h1)))).congr (fun g => up_mid HK.out g))
          clear hk1 hk2 hk3 hr2 hr3 hkp2 hkp3 hF3 hw1 p1 p2 q1 q2 t1 t2 HG HP HK HI hF' hFb c0 c1 c2 c3
          obtain ⟨wX, hwX⟩ : ∃ x, x = w3 := ⟨_, rfl⟩
          rw [← hwX] at HX ⊢
          clear hwX
          obtain ⟨c0, c1, c2, c3⟩ := HX.out.cells
          by_cases h255 : n < 255
          · have HG := Lib.hid (group_none wb s ((n : Int) - 255) wX c0 hs (by omega) (by omega) (by omega))
            go_wp2_with (go_at_call 79; refine HG.out.mono ?_; rintro e w' ⟨rfl, rfl⟩)
            go_roundw
            case rel => exact ⟨n + 1, by omega, (HX.out.congr (fun g => mid_new _ g n h255)).next hF hwb⟩
            case measure =>
              have := nextOf_eq (HX.out.next hF hwb)
              rw [this, HN.out]; omega
          · obtain ⟨k1, hk1⟩ : ∃ k, k = s.extract (n - 255) (n - 255 + 4) := ⟨_, rfl⟩
            have hks1 : k1.size ≤ maxLen := by rw [hk1]; unfold maxLen; simp; omega
            have hgk1 : grp s.data.toList (n - 255) = some k1.data.toList := by rw [hk1]; exact grp_ex s _ (by omega)
            have HG := Lib.hid (group_key' wb s k1 ((n : Int) - 255) (n - 255) wX c0 hs (by omega) (by omega) hk1)
            obtain ⟨F1, ⟨es1, cl1, V1, hI1⟩, hF1⟩ := HX.out.win
            have hF1b : ¬ F1 wb := fun hb => by rcases hF1 wb hb with h1 | h1; exact hF h1; omega
            have hP1 : mid s.data.toList k1.data.toList n = (n - 255) :: pos s.data.toList k1.data.toList (n + 1) := by
              rw [mid_old s.data.toList k1.data.toList n (by omega), if_pos hgk1]; rfl
            have hlk := hI1.look (Pr := Try.prog) (kt := 9) (t := 110) Try.underlying9 Try.underlying110 zero_ints k1 hks1 (w' := wX) rfl
            by_cases hz : pos s.data.toList k1.data.toList (n + 1) = []
            · obtain ⟨w4, hr4, hw4, hkp4⟩ := hI1.drop (Pr := Try.prog) (kt := 9) (mt := 110) (t := 22) (ty := 0) Try.underlying9 Try.underlying110 k1 hks1
              obtain ⟨b, off, cap, hv⟩ : ∃ b off cap, Win.val V1 k1 = .slice (some ⟨b, off, none⟩) 1 cap := by
                rcases hI1.val_is k1 with ⟨_, h2, _⟩ | ⟨b, _, _, _, off, cap, cells, h3, _⟩
                · rw [hP1, hz] at h2; cases h2
                · rw [hP1, hz] at h3; exact ⟨b, off, cap, h3⟩
              rw [hv] at hlk
              have HW4 := Lib.hid ((HX.out.step hF hwb hF1 hkp4 hw4 hF1).congr (Q := fun g => pos s.data.toList g (n + 1)) (fun g => by have := up_old (s := s.data.toList) (by omega) hgk1 g; rw [hz] at this; exact this))
              clear hz hP1 hI1 hw4 hkp4 hk1 hgk1 hks1 hv hF1 hF1b
              go_wp2_with (first | (go_at_call 79; refine HG.out.mono ?_; rintro e w' ⟨rfl, rfl⟩) | (refine By.list_delete rfl _ _ _ _ 0 rfl rfl rfl rfl hr4 ?_; obtain ⟨d0, d1, d2, d3⟩ := HW4.out.cells))
              go_roundw
              case rel => exact ⟨n + 1, by omega, HW4.out.next hF hwb⟩
              case measure =>
                have := nextOf_eq (HW4.out.next hF hwb)
                rw [this, HN.out]; omega
            · obtain ⟨b, off, cap, w4, F4, hv, hc1, hc2, hr4, hw4, hF4, hkp4⟩ := (hI1.held (Held.refl wX).drew).tail (Pr := Try.prog) (kt := 9) (mt := 110) (t := 22) Try.underlying9 Try.underlying110 k1 hks1 _ _ hP1 hz
              rw [hv] at hlk
              have hkp5 : Win.Kept F1 wX w4 := (Win.Kept.of_held (Held.refl wX).drew).trans hkp4 (fun _ h => .inl h)
              have HW4 := Lib.hid ((HX.out.step hF hwb hF1 hkp5 hw4 (fun b hb => hF1 b (hF4 b hb))).congr (Q := fun g => pos s.data.toList g (n + 1)) (fun g => up_old (s := s.data.toList) (by omega) hgk1 g))
              obtain ⟨d0, d1, d2, d3⟩ := HW4.out.cells
              have hl1 := List.length_pos_iff.2 hz
              have hl2 := pos_len s.data.toList k1.data.toList (n + 1)
              generalize (pos s.data.toList k1.data.toList (n + 1)).length = len at hlk hl1 hl2 hc1 hr4
              have hc3 : (len : Int) + 1 ≤ cap := by omega
              have hc4 : ¬ cap = 1 := by omega
              have hc5 : (1 : Int) ≤ cap := by omega
              have hc6 : (1 : Int) ≤ (len : Int) + 1 := by omega
              have hc7 : (1 : Int) < (len : Int) + 1 := by omega
              clear hz hP1 hI1 hw4 hkp4 hkp5 hk1 hgk1 hks1 hv hF1 hF1b hF4
              go_wp2_with (go_at_call 79; refine HG.out.mono ?_; rintro e w' ⟨rfl, rfl⟩)
              go_region_held3 (fun w' => w'.cell? ⟨wb, 1, none⟩ = some (.map (some m))) (first | exact c1 | exact d1) (fail)
              all_goals
                go_wp2
                go_roundw
                case rel => exact ⟨n + 1, by omega, HW4.out.next hF hwb⟩
                case measure =>
                  have := nextOf_eq (HW4.out.next hF hwb)
                  rw [this, HN.out]; omega
      · have hgn := grp_no s n (by omega)
        have HX := Lib.hid (HM.out.congr (fun g => none_mid hgn g))
        have HG := Lib.hid (group_none wb s n wr c0 hs (by omega) (by omega) (by omega))
        clear hgn hg
        go_wp2_with fail
        refine HG.out.mono ?_
        rintro e w' ⟨rfl, rfl⟩
        clear HG c0 c1 c2 c3
        obtain ⟨wX, hwX⟩ : ∃ x, x = wr := ⟨_, rfl⟩
        rw [← hwX] at HX ⊢
        clear hwX
        obtain ⟨c0, c1, c2, c3⟩ := HX.out.cells
        by_cases h255 : n < 255
        · have HG := Lib.hid (group_none wb s ((n : Int) - 255) wX c0 hs (by omega) (by omega) (by omega))
          go_wp2_with (go_at_call 79; refine HG.out.mono ?_; rintro e w' ⟨rfl, rfl⟩)
          go_roundw
          case rel => exact ⟨n + 1, by omega, (HX.out.congr (fun g => mid_new _ g n h255)).next hF hwb⟩
          case measure =>
            have := nextOf_eq (HX.out.next hF hwb)
            rw [this, HN.out]; omega
        · obtain ⟨k1, hk1⟩ : ∃ k, k = s.extract (n - 255) (n - 255 + 4) := ⟨_, rfl⟩
          have hks1 : k1.size ≤ maxLen := by rw [hk1]; unfold maxLen; simp; omega
          have hgk1 : grp s.data.toList (n - 255) = some k1.data.toList := by rw [hk1]; exact grp_ex s _ (by omega)
          have HG := Lib.hid (group_key' wb s k1 ((n : Int) - 255) (n - 255) wX c0 hs (by omega) (by omega) hk1)
          obtain ⟨F1, ⟨es1, cl1, V1, hI1⟩, hF1⟩ := HX.out.win
          have hF1b : ¬ F1 wb := fun hb => by rcases hF1 wb hb with h1 | h1; exact hF h1; omega
          have hP1 : mid s.data.toList k1.data.toList n = (n - 255) :: pos s.data.toList k1.data.toList (n + 1) := by
            rw [mid_old s.data.toList k1.data.toList n (by omega), if_pos hgk1]; rfl
          have hlk := hI1.look (Pr := Try.prog) (kt := 9) (t := 110) Try.underlying9 Try.underlying110 zero_ints k1 hks1 (w' := wX) rfl
          by_cases hz : pos s.data.toList k1.data.toList (n + 1) = []
          · obtain ⟨w4, hr4, hw4, hkp4⟩ := hI1.drop (Pr := Try.prog) (kt := 9) (mt := 110) (t := 22) (ty := 0) Try.underlying9 Try.underlying110 k1 hks1
            obtain ⟨b, off, cap, hv⟩ : ∃ b off cap, Win.val V1 k1 = .slice (some ⟨b, off, none⟩) 1 cap := by
              rcases hI1.val_is k1 with ⟨_, h2, _⟩ | ⟨b, _, _, _, off, cap, cells, h3, _⟩
              · rw [hP1, hz] at h2; cases h2
              · rw [hP1, hz] at h3; exact ⟨b, off, cap, h3⟩
            rw [hv] at hlk
            have HW4 := Lib.hid ((HX.out.step hF hwb hF1 hkp4 hw4 hF1).congr (Q := fun g => pos s.data.toList g (n + 1)) (fun g => by have := up_old (s := s.data.toList) (by omega) hgk1 g; rw [hz] at this; exact this))
            clear hz hP1 hI1 hw4 hkp4 hk1 hgk1 hks1 hv hF1 hF1b
            go_wp2_with (first | (go_at_call 79; refine HG.out.mono ?_; rintro e w' ⟨rfl, rfl⟩) | (refine By.list_delete rfl _ _ _ _ 0 rfl rfl rfl rfl hr4 ?_; obtain ⟨d0, d1, d2, d3⟩ := HW4.out.cells))
            go_roundw
            case rel => exact ⟨n + 1, by omega, HW4.out.next hF hwb⟩
            case measure =>
              have := nextOf_eq (HW4.out.next hF hwb)
              rw [this, HN.out]; omega
          · obtain ⟨b, off, cap, w4, F4, hv, hc1, hc2, hr4, hw4, hF4, hkp4⟩ := (hI1.held (Held.refl wX).drew).tail (Pr := Try.prog) (kt := 9) (mt := 110) (t := 22) Try.underlying9 Try.underlying110 k1 hks1 _ _ hP1 hz
            rw [hv] at hlk
            have hkp5 : Win.Kept F1 wX w4 := (Win.Kept.of_held (Held.refl wX).drew).trans hkp4 (fun _ h => .inl h)
            have HW4 := Lib.hid ((HX.out.step hF hwb hF1 hkp5 hw4 (fun b hb => hF1 b (hF4 b hb))).congr (Q := fun g => pos s.data.toList g (n + 1)) (fun g => up_old (s := s.data.toList) (by omega) hgk1 g))
            obtain ⟨d0, d1, d2, d3⟩ := HW4.out.cells
            have hl1 := List.length_pos_iff.2 hz
            have hl2 := pos_len s.data.toList k1.data.toList (n + 1)
            generalize (pos s.data.toList k1.data.toList (n + 1)).length = len at hlk hl1 hl2 hc1 hr4
            have hc3 : (len : Int) + 1 ≤ cap := by omega
            have hc4 : ¬ cap = 1 := by omega
            have hc5 : (1 : Int) ≤ cap := by omega
            have hc6 : (1 : Int) ≤ (len : Int) + 1 := by omega
            have hc7 : (1 : Int) < (len : Int) + 1 := by omega
            clear hz hP1 hI1 hw4 hkp4 hkp5 hk1 hgk1 hks1 hv hF1 hF1b hF4
            go_wp2_with (go_at_call 79; refine HG.out.mono ?_; rintro e w' ⟨rfl, rfl⟩)
            go_region_held3 (fun w' => w'.cell? ⟨wb, 1, none⟩ = some (.map (some m))) (first | exact c1 | exact d1) (fail)
            all_goals
              go_wp2
              go_roundw
              case rel => exact ⟨n + 1, by omega, HW4.out.next hF hwb⟩
              case measure =>
                have := nextOf_eq (HW4.out.next hF hwb)
                rw [this, HN.out]; omega
    · have hni : n = i := by omega
      subst hni
      go_wp2
      go_end0
      exact ⟨rfl, HM.out⟩
end Cp
end Go.Proofs.Ythpjbffhdaaibaa
