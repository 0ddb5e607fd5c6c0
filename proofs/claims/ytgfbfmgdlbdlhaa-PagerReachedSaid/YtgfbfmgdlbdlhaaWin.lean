/-
  A map of lists of positions, each list in a block of its own: what a window over a string remembers. (Over any program.)
-/
import Derived.Test.YtgfbfmgdlbdlhaaSm
import Derived.Test.YtgfbfmgdlbdlhaaRd
import Derived.ArgAppend
import Derived.Maps.AppendAt
namespace Go.Proofs.Ytgfbfmgdlbdlhaa.Win
open Go Go.ChangeMaps Go.MapKept Go.RowKit
set_option linter.unusedVariables false
/-- The slice v holds the numbers xs, in block b, from some cell on. -/
def Lst (e : TypeId) (w : World) (v : Value) (xs : List Nat) (b : Nat) : Prop :=
  ∃ off cap cells, v = .slice (some ⟨b, off, none⟩) xs.length cap ∧ w.heap[b]? = some (.cells cells e (0, 0)) ∧ xs.length ≤ cap ∧ cap ≤ maxLen ∧ off + cap ≤ cells.size ∧
    ∀ j (h : j < xs.length), cells[off + j]? = some (.int .i64 (xs[j] : Int))
/-- Behind w, w' has the same blocks but those of F. -/
structure Kept (F : Nat → Prop) (w w' : World) : Prop where
  os : w'.os = w.os
  tape : w'.tape = w.tape
  output : w'.output = w.output
  size : w.heap.size ≤ w'.heap.size
  block : ∀ b, b < w.heap.size → ¬ F b → w'.heap[b]? = w.heap[b]?
theorem Kept.refl (F : Nat → Prop) (w : World) : Kept F w w := ⟨rfl, rfl, rfl, Nat.le_refl _, fun _ _ _ => rfl⟩
theorem Kept.trans {F G : Nat → Prop} {a b c : World} (h : Kept F a b) (k : Kept G b c) (hG : ∀ x, G x → F x ∨ a.heap.size ≤ x) : Kept F a c :=
  ⟨k.os.trans h.os, k.tape.trans h.tape, k.output.trans h.output, Nat.le_trans h.size k.size, fun x hx hf => (k.block x (Nat.lt_of_lt_of_le hx h.size) (fun hg => by rcases hG x hg with h1 | h1; exact hf h1; omega)).trans (h.block x hx hf)⟩
theorem Kept.mono {F G : Nat → Prop} {a b : World} (h : Kept F a b) (hG : ∀ x, x < a.heap.size → F x → G x) : Kept G a b :=
  ⟨h.os, h.tape, h.output, h.size, fun x hx hf => h.block x hx (fun h1 => hf (hG x hx h1))⟩
theorem Kept.of_held {F : Nat → Prop} {a b : World} (h : Held a b) : Kept F a b := ⟨h.os, h.tape, h.output, h.size, fun x hx _ => h.block x hx⟩
theorem Kept.drewN {F : Nat → Prop} {a b : World} (h : Kept F a b) (n : Nat) : Kept F a (b.drewN n) := by
  cases n with
  | zero => exact h
  | succ n => exact ⟨h.os, h.tape, h.output, h.size, h.block⟩
theorem Kept.held {F : Nat → Prop} {W a b : World} (h : Kept F a b) (hw : Held W a) (hF : ∀ x, F x → W.heap.size ≤ x) : Held W b :=
  ⟨h.os.trans hw.os, h.tape.trans hw.tape, h.output.trans hw.output, Nat.le_trans hw.size h.size, fun x hx => (h.block x (Nat.lt_of_lt_of_le hx hw.size) (fun hf => by have := hF x hf; omega)).trans (hw.block x hx)⟩
theorem Kept.cell {F : Nat → Prop} {a b : World} (h : Kept F a b) {p : Addr} {v : Value} (hp : a.cell? p = some v) (hF : ¬ F p.block) : b.cell? p = some v := by
  rw [World.cell?_of_block (h.block p.block (lt_of_cell hp) hF)]; exact hp
theorem Lst.of_block {e : TypeId} {w w' : World} {v : Value} {xs : List Nat} {b : Nat} (h : Lst e w v xs b) (hb : w'.heap[b]? = w.heap[b]?) : Lst e w' v xs b := by
  obtain ⟨off, cap, cells, h1, h2, h3⟩ := h
  exact ⟨off, cap, cells, h1, hb.trans h2, h3⟩
theorem Lst.lt {e : TypeId} {w : World} {v : Value} {xs : List Nat} {b : Nat} (h : Lst e w v xs b) : b < w.heap.size := by
  obtain ⟨off, cap, cells, h1, h2, h3⟩ := h
  exact (Array.getElem?_eq_some_iff.1 h2).1
theorem lst_of_row {e : TypeId} {w : World} {base : Nat} {v : Value} {xs : List Nat} (hx : 0 < xs.length) (h : w.ownsRow base e 1 v xs.length (xs.map fun x : Nat => Value.int .i64 (x : Int))) : ∃ b, base ≤ b ∧ Lst e w v xs b ∧ v.ownBlock = some b := by
  rcases h.2 with ⟨rfl, h0⟩ | ⟨g, cap, cur, rfl, hg, hh, hn, hm, hc, ht⟩
  · omega
  · refine ⟨g, hg, ⟨0, cap, cur, rfl, hh, hn, hm, by omega, fun j hj => ?_⟩, rfl⟩
    have h1 : (cur.toList.take (xs.length * 1))[j]? = some (Value.int .i64 (xs[j] : Int)) := by
      rw [ht, List.getElem?_map, List.getElem?_eq_getElem hj]; rfl
    rw [List.getElem?_take, if_pos (by omega)] at h1
    rw [Nat.zero_add]
    simpa using h1
/-- 'append(v, x)'. -/
theorem app {Pr : Program} {w : World} {t ty e : TypeId} (ht : Pr.underlying t = some (.slice e)) (hi : (Pr.info? e).map (fun i => (i.zero, i.size, i.bytes)) = some (some (.int .i64 0), 1, 8))
    {v : Value} {xs : List Nat} (hv : (v = .slice none 0 0 ∧ xs = []) ∨ ∃ b, Lst e w v xs b) {x : Nat} {ad : Addr} {c : Nat} (hc : w.cell? ad = some (.int .i64 (x : Int))) (hl : xs.length < 1000000000000) :
    ∃ v' w' b', (Builtin.append_ #[t, t] ty #[v, .slice (some ad) 1 c]).run Pr w = .ok v' w' ∧ Lst e w' v' (xs ++ [x]) b' ∧ (w.heap.size ≤ b' ∨ v.ownBlock = some b') ∧ w.grownBy w' v.ownBlock := by
  obtain ⟨i0, hi0, hz0, hz1, hz2⟩ := info_parts hi
  have hnews : ∀ j u, ([Value.int .i64 (x : Int)])[j]? = some u → w.cell? (ad.add j) = some u := by
    intro j u hu
    match j, hu with
    | 0, hu => simp at hu; subst hu; simpa [Addr.add] using hc
    | j + 1, hu => simp at hu
  have h1 : ∀ u ∈ [Value.int .i64 (x : Int)], u.oneCell' = true := by simp [Value.oneCell']
  rcases hv with ⟨rfl, rfl⟩ | ⟨b, off, cap, cells, rfl, hb, hn, hm, ho, hcell⟩
  · obtain ⟨v', w', hr, hown, hg, _, _⟩ := run_append_own_at (P := Pr) w w.heap.size t ty e i0 (.int .i64 0) 1 8 ht hi0 hz0 hz1 hz2 rfl (by decide) (.slice none 0 0) 0 [] (World.ownsRow_nil _ _ _ _) ad 1 c [.int .i64 (x : Int)] rfl hnews h1 (by unfold maxLen; omega) (by omega) (Nat.le_refl _)
    obtain ⟨b, hb1, hb2, _⟩ := lst_of_row (xs := [x]) (by simp) hown
    exact ⟨v', w', b, hr, hb2, .inl hb1, hg⟩
  · by_cases hroom : xs.length + 1 ≤ cap
    · have hr := run_append_room_cells (P := Pr) (ty := ty) w t e i0 ht hi0 b off xs.length cap ad 1 c [.int .i64 (x : Int)] (by rw [hz1]; rfl) hnews h1 hroom
        (fun j hj => by
          simp only [List.length_singleton] at hj
          obtain rfl : j = 0 := by omega
          rw [hz1]
          have h2 : off + xs.length * 1 + 0 < cells.size := by omega
          simp only [World.cell?, hb]
          rw [Array.getElem?_eq_getElem h2]; rfl)
        (fun j hj => by simp [World.frozen?, hb])
      rw [hz1] at hr
      simp only [Nat.mul_one, World.setCells] at hr
      have hset : (w.setCell ⟨b, off + xs.length, none⟩ (.int .i64 (x : Int))).heap[b]? = some (.cells (cells.setIfInBounds (off + xs.length) (.int .i64 (x : Int))) e (0, 0)) := by
        simp only [World.setCell]
        rw [Array.getElem?_modify, if_pos rfl, hb]; rfl
      refine ⟨_, _, b, hr, ?_, .inr rfl, ?_⟩
      · refine ⟨off, cap, _, by simp, hset, by simpa using hroom, hm, by simpa using ho, fun j hj => ?_⟩
        rw [List.length_append, List.length_singleton] at hj
        rw [Array.getElem?_setIfInBounds]
        by_cases hjx : j = xs.length
        · subst hjx
          rw [if_pos rfl, if_pos (by omega)]
          simp
        · rw [if_neg (by omega), hcell j (by omega), List.getElem_append_left (by omega)]
      · refine ⟨rfl, rfl, rfl, by simp [World.setCell], fun k hk hne => ?_⟩
        simp only [World.setCell]
        rw [Array.getElem?_modify, if_neg]
        intro e
        subst e
        exact hne rfl
    · obtain ⟨v', w', hr, hown, hg⟩ := run_append_arg_grows (P := Pr) (ty := ty) w t e i0 (.int .i64 0) 1 8 ht hi0 hz0 hz1 hz2 rfl (by decide) ⟨b, off, none⟩ xs.length cap (xs.map fun x : Nat => Value.int .i64 (x : Int)) (by simp)
        (fun j u hu => by
          rw [List.getElem?_map] at hu
          rcases hx : xs[j]? with _ | y
          · rw [hx] at hu; cases hu
          · rw [hx] at hu
            injection hu with hu
            subst hu
            obtain ⟨hj, rfl⟩ := List.getElem?_eq_some_iff.1 hx
            have := hcell j hj
            rw [Addr.add_lit]
            simp only [World.cell?, hb]
            exact this)
        ad 1 c [.int .i64 (x : Int)] rfl hnews (by omega) (by unfold maxLen; omega) (by omega)
      obtain ⟨b', hb1, hb2, _⟩ := lst_of_row (xs := xs ++ [x]) (by simp) (by simpa using hown)
      exact ⟨v', w', b', hr, hb2, .inl hb1, ⟨hg.os, hg.tape, hg.output, hg.size, fun k hk _ => hg.block k hk (by simp)⟩⟩
theorem keyEq {k k' : ByteArray} (h : k.data.toList = k'.data.toList) : k = k' := by
  cases k; cases k'; simp at h; rw [h]
/-- Block m is a map of lists of positions: at the key k the list P k (none where that is empty); all that it uses lies in the blocks F. -/
structure Is (e : TypeId) (w : World) (m : Nat) (F : Nat → Prop) (P : List UInt8 → List Nat) (es : Array MapEntry) (clock : Nat) (V : ByteArray → Option (Value × Nat)) : Prop where
  own : F m
  lt : ∀ b, F b → b < w.heap.size
  blk : w.heap[m]? = some (.map es clock)
  ent : Sm.Ent es (fun k => (V k).map (·.1))
  nokey : ∀ k, V k = none → P k.data.toList = []
  atkey : ∀ k v b, V k = some (v, b) → P k.data.toList ≠ [] ∧ F b ∧ Lst e w v (P k.data.toList) b
  apart : ∀ k k' v v' b, V k = some (v, b) → V k' = some (v', b) → k = k'
def val (V : ByteArray → Option (Value × Nat)) (k : ByteArray) : Value := ((V k).map (·.1)).getD (.slice none 0 0)
namespace Is
variable {e : TypeId} {w : World} {m : Nat} {F : Nat → Prop} {P : List UInt8 → List Nat} {es : Array MapEntry} {clock : Nat} {V : ByteArray → Option (Value × Nat)}
theorem kept {G : Nat → Prop} {w' : World} (h : Is e w m F P es clock V) (k : Kept G w w') (hG : ∀ b, F b → ¬ G b) : Is e w' m F P es clock V :=
  ⟨h.own, fun b hb => Nat.lt_of_lt_of_le (h.lt b hb) k.size, (k.block m (h.lt m h.own) (hG m h.own)).trans h.blk, h.ent, h.nokey,
    fun x v b hv => ⟨(h.atkey x v b hv).1, (h.atkey x v b hv).2.1, (h.atkey x v b hv).2.2.of_block (k.block b (h.lt b (h.atkey x v b hv).2.1) (hG b (h.atkey x v b hv).2.1))⟩, h.apart⟩
theorem held {w' : World} (h : Is e w m F P es clock V) (k : Held w w') : Is e w' m F P es clock V := h.kept (G := fun _ => False) (Kept.of_held k) (fun _ _ h => h)
theorem look {Pr : Program} {kt t st : TypeId} (hk : Pr.underlying kt = some .string) (ht : Pr.underlying t = some (.map kt st)) (hz : ∀ w, (zeroValue st).run Pr w = .ok (.slice none 0 0) w) (h : Is e w m F P es clock V) (k : ByteArray) (hs : k.size ≤ maxLen) {w' : World} (hw : w'.heap[m]? = w.heap[m]?) :
    (Instr.lookup t (.map (some m)) (.string k) false).run Pr w' = .ok (val V k) w' :=
  Sm.look hk ht (hz w') (hw.trans h.blk) h.ent k hs
theorem val_is (h : Is e w m F P es clock V) (k : ByteArray) : (val V k = .slice none 0 0 ∧ P k.data.toList = [] ∧ V k = none) ∨ ∃ b, V k = some (val V k, b) ∧ F b ∧ P k.data.toList ≠ [] ∧ Lst e w (val V k) (P k.data.toList) b := by
  rcases hv : V k with _ | ⟨v, b⟩
  · exact .inl ⟨by simp [val, hv], h.nokey k hv, rfl⟩
  · have := h.atkey k v b hv
    have e1 : val V k = v := by simp [val, hv]
    rw [e1]
    exact .inr ⟨b, rfl, this.2.1, this.1, this.2.2⟩
def up (P : List UInt8 → List Nat) (k : List UInt8) (l : List Nat) : List UInt8 → List Nat := fun k' => if k' = k then l else P k'
/-- A store at k of a slice that holds l, in the block that k had or in a new one; all other blocks of the map's as they were. -/
theorem put {w' : World} (h : Is e w m F P es clock V) (k : ByteArray) {v : Value} {l : List Nat} {b : Nat} (hl : l ≠ []) (hv : Lst e w' v l b) (hb : w.heap.size ≤ b ∨ ∃ v0, V k = some (v0, b)) (hg : Kept (fun x => some x = (val V k).ownBlock) w w')
    {es' : Array MapEntry} {clock' : Nat} (hent : Sm.Ent es' (Sm.upd (fun k => (V k).map (·.1)) k (some v))) :
    Is e (setBlock w' m (.map es' clock')) m (fun x => F x ∨ x = b) (up P k.data.toList l) es' clock' (fun k' => if k' = k then some (v, b) else V k') := by
  have hmw : ¬ some m = (val V k).ownBlock := by
    intro e1
    rcases h.val_is k with ⟨h1, _⟩ | ⟨b1, h1, _, _, h2⟩
    · rw [h1] at e1; cases e1
    · obtain ⟨off, cap, cells, h3, h4, _⟩ := h2
      rw [h3] at e1
      injection e1 with e1
      subst e1
      rw [h.blk] at h4; cases h4
  have hm' : w'.heap[m]? = some (.map es clock) := (hg.block m (h.lt m h.own) hmw).trans h.blk
  have hother : ∀ i, i ≠ m → (setBlock w' m (.map es' clock')).heap[i]? = w'.heap[i]? := fun i hi => heap_setBlock_other hm' _ hi
  have hbm : b ≠ m := by
    rintro rfl
    obtain ⟨off, cap, cells, h3, h4, _⟩ := hv
    rw [hm'] at h4; cases h4
  have hsz : (setBlock w' m (.map es' clock')).heap.size = w'.heap.size := by simp [setBlock]
  have hown : ∀ k' v' b', V k' = some (v', b') → k' ≠ k → b' ≠ b ∧ ¬ some b' = (val V k).ownBlock := by
    intro k' v' b' hv' hne
    have hlt' := h.lt b' (h.atkey k' v' b' hv').2.1
    refine ⟨?_, ?_⟩
    · rintro rfl
      rcases hb with hb | ⟨v0, hb⟩
      · omega
      · exact hne (h.apart _ _ _ _ _ hv' hb)
    · intro e1
      rcases h.val_is k with ⟨h1, _⟩ | ⟨b1, h1, _, _, h2⟩
      · rw [h1] at e1; cases e1
      · obtain ⟨off, cap, cells, h3, h4, _⟩ := h2
        rw [h3] at e1
        injection e1 with e1
        subst e1
        exact hne (h.apart _ _ _ _ _ hv' h1)
  refine ⟨.inl h.own, ?_, heap_setBlock_same hm' _, ?_, ?_, ?_, ?_⟩
  · intro x hx
    rw [hsz]
    rcases hx with hx | rfl
    · exact Nat.lt_of_lt_of_le (h.lt x hx) hg.size
    · exact hv.lt
  · have e1 : (fun k' => ((if k' = k then some (v, b) else V k') : Option (Value × Nat)).map (·.1)) = Sm.upd (fun k => (V k).map (·.1)) k (some v) := by
      funext k'
      unfold Sm.upd
      split <;> rfl
    rw [e1]; exact hent
  · intro k' hv'
    split at hv'
    · cases hv'
    · rename_i hne
      unfold up
      rw [if_neg (fun e1 => hne (keyEq e1))]
      exact h.nokey k' hv'
  · intro k' v' b' hv'
    split at hv'
    · rename_i e1
      injection hv' with hv'
      injection hv' with h1 h2
      subst h1 h2 e1
      unfold up
      rw [if_pos rfl]
      exact ⟨hl, .inr rfl, hv.of_block (hother _ hbm)⟩
    · rename_i hne
      unfold up
      rw [if_neg (fun e1 => hne (keyEq e1))]
      have h1 := h.atkey k' v' b' hv'
      have h2 := hown k' v' b' hv' hne
      have hne' : b' ≠ m := by
        rintro rfl
        obtain ⟨off, cap, cells, h3, h4, _⟩ := h1.2.2
        rw [h.blk] at h4; cases h4
      exact ⟨h1.1, .inl h1.2.1, h1.2.2.of_block ((hother _ hne').trans (hg.block b' (h.lt b' h1.2.1) h2.2))⟩
  · intro k1 k2 v1 v2 b' h1 h2
    split at h1
    · rename_i e1
      injection h1 with h1
      injection h1 with h1 h1'
      subst h1'
      split at h2
      · rename_i e2; rw [e1, e2]
      · rename_i e2; exact absurd rfl (hown k2 v2 b h2 e2).1
    · rename_i e1
      split at h2
      · rename_i e2
        injection h2 with h2
        injection h2 with h2 h2'
        subst h2'
        exact absurd rfl (hown k1 v1 b h1 e1).1
      · exact h.apart _ _ _ _ _ h1 h2
/-- 'delete' at k. -/
theorem del (h : Is e w m F P es clock V) (k : ByteArray) {es' : Array MapEntry} (hent : Sm.Ent es' (Sm.upd (fun k => (V k).map (·.1)) k none)) :
    Is e (setBlock w m (.map es' clock)) m F (up P k.data.toList []) es' clock (fun k' => if k' = k then none else V k') := by
  have hother : ∀ i, i ≠ m → (setBlock w m (.map es' clock)).heap[i]? = w.heap[i]? := fun i hi => heap_setBlock_other h.blk _ hi
  refine ⟨h.own, fun x hx => by simpa [setBlock] using h.lt x hx, heap_setBlock_same h.blk _, ?_, ?_, ?_, ?_⟩
  · have e1 : (fun k' => ((if k' = k then none else V k') : Option (Value × Nat)).map (·.1)) = Sm.upd (fun k => (V k).map (·.1)) k none := by
      funext k'
      unfold Sm.upd
      split <;> rfl
    rw [e1]; exact hent
  · intro k' hv'
    unfold up
    split at hv'
    · rename_i e1; subst e1; rw [if_pos rfl]
    · rename_i hne
      rw [if_neg (fun e1 => hne (keyEq e1))]
      exact h.nokey k' hv'
  · intro k' v' b' hv'
    split at hv'
    · cases hv'
    · rename_i hne
      unfold up
      rw [if_neg (fun e1 => hne (keyEq e1))]
      have h1 := h.atkey k' v' b' hv'
      have hne' : b' ≠ m := by
        rintro rfl
        obtain ⟨off, cap, cells, h3, h4, _⟩ := h1.2.2
        rw [h.blk] at h4; cases h4
      exact ⟨h1.1, h1.2.1, h1.2.2.of_block (hother _ hne')⟩
  · intro k1 k2 v1 v2 b' h1 h2
    split at h1
    · cases h1
    · split at h2
      · cases h2
      · exact h.apart _ _ _ _ _ h1 h2
end Is
/-- .. the entries unnamed. -/
def Win (e : TypeId) (w : World) (m : Nat) (F : Nat → Prop) (P : List UInt8 → List Nat) : Prop := ∃ es clock V, Is e w m F P es clock V
theorem Win.congr {e : TypeId} {w : World} {m : Nat} {F : Nat → Prop} {P Q : List UInt8 → List Nat} (h : Win e w m F P) (hP : ∀ g, P g = Q g) : Win e w m F Q := by
  have : P = Q := funext hP
  rw [← this]; exact h
theorem Win.made {e : TypeId} (w : World) : Win e (w.alloc (.map #[] 0)) w.heap.size (fun b => b = w.heap.size) (fun _ => []) :=
  ⟨#[], 0, fun _ => none, rfl, fun b hb => by subst hb; simp, (MapKept.heap_alloc w _).1, Sm.ent_empty, fun _ _ => rfl, fun _ _ _ h => by (cases h), fun _ _ _ _ _ h => by (cases h)⟩
theorem kept_set {w : World} {m clock : Nat} {es : Array MapEntry} (h : w.heap[m]? = some (.map es clock)) (o : Obj) : Kept (fun x => x = m) w (setBlock w m o) :=
  ⟨rfl, rfl, rfl, by simp [setBlock], fun b _ hb => heap_setBlock_other h _ hb⟩
namespace Is
variable {e : TypeId} {w : World} {m : Nat} {F : Nat → Prop} {P : List UInt8 → List Nat} {es : Array MapEntry} {clock : Nat} {V : ByteArray → Option (Value × Nat)}
theorem val_block (h : Is e w m F P es clock V) (k : ByteArray) (b : Nat) (hb : some b = (val V k).ownBlock) : F b := by
  rcases h.val_is k with ⟨h1, _⟩ | ⟨b1, _, h2, _, off, cap, cells, h3, _⟩
  · rw [h1] at hb; cases hb
  · rw [h3] at hb
    injection hb with hb
    subst hb; exact h2
/-- 'm[k] = append(m[k], x)'. -/
theorem add {Pr : Program} {kt mt t ty : TypeId} (hk : Pr.underlying kt = some .string) (hm : Pr.underlying mt = some (.map kt t)) (ht : Pr.underlying t = some (.slice e)) (hi : (Pr.info? e).map (fun i => (i.zero, i.size, i.bytes)) = some (some (.int .i64 0), 1, 8))
    (h : Is e w m F P es clock V) (k : ByteArray) (hks : k.size ≤ maxLen) (x : Nat) {ad : Addr} {c : Nat} (hc : w.cell? ad = some (.int .i64 (x : Int))) (hl : (P k.data.toList).length < 1000000000000) :
    ∃ v' w2 w3 F3, (Builtin.append_ #[t, t] ty #[val V k, .slice (some ad) 1 c]).run Pr w = .ok v' w2 ∧ (Instr.mapUpdate mt (.map (some m)) (.string k) v').run Pr w2 = .ok () w3 ∧
      Win e w3 m F3 (up P k.data.toList (P k.data.toList ++ [x])) ∧ (∀ b, F3 b → F b ∨ w.heap.size ≤ b) ∧ Kept F w w2 ∧ Kept F w w3 := by
  have hv := h.val_is k
  obtain ⟨v', w2, b', hr, hl2, hb', hg⟩ := app (Pr := Pr) (ty := ty) (c := c) ht hi (v := val V k) (xs := P k.data.toList) (by rcases hv with ⟨h1, h2, _⟩ | ⟨b, _, _, _, h4⟩; exact .inl ⟨h1, h2⟩; exact .inr ⟨b, h4⟩) hc hl
  have hkw : Kept (fun x => some x = (val V k).ownBlock) w w2 := ⟨hg.os, hg.tape, hg.output, hg.size, fun b hb hn => hg.block b hb hn⟩
  have hkF : Kept F w w2 := hkw.mono (fun b _ hb => h.val_block k b hb)
  have hm2 : w2.heap[m]? = some (.map es clock) := by
    rw [hkw.block m (h.lt m h.own) ?_]
    · exact h.blk
    · intro e1
      rcases hv with ⟨h1, _⟩ | ⟨b1, _, _, _, off, cap, cells, h3, h4, _⟩
      · rw [h1] at e1; cases e1
      · rw [h3] at e1
        injection e1 with e1
        subst e1
        rw [h.blk] at h4; cases h4
  obtain ⟨es', clock', hst, hent⟩ := Sm.store hk hm hm2 h.ent k hks v'
  have hput := h.put (clock' := clock') k (v := v') (l := P k.data.toList ++ [x]) (b := b') (by simp) hl2 (by
    rcases hb' with hb' | hb'
    · exact .inl hb'
    · rcases hv with ⟨h1, _⟩ | ⟨b1, h2, _, _, off, cap, cells, h3, _⟩
      · rw [h1] at hb'; cases hb'
      · refine .inr ⟨val V k, ?_⟩
        rw [h3] at hb'
        injection hb' with hb'
        rw [← hb']; exact h2) hkw hent
  refine ⟨v', w2, _, _, hr, hst, ⟨_, _, _, hput⟩, ?_, hkF, ?_⟩
  · rintro b (hb | rfl)
    · exact .inl hb
    · rcases hb' with hb' | hb'
      · exact .inr hb'
      · exact .inl (h.val_block k b hb'.symm)
  · exact hkF.trans (kept_set hm2 _) (fun b hb => by subst hb; exact .inl h.own)
/-- 'm[k] = m[k][1:]', more than one element there. -/
theorem tail {Pr : Program} {kt mt t : TypeId} (hk : Pr.underlying kt = some .string) (hm : Pr.underlying mt = some (.map kt t)) (h : Is e w m F P es clock V) (k : ByteArray) (hks : k.size ≤ maxLen) (x : Nat) (xs : List Nat) (hP : P k.data.toList = x :: xs) (hne : xs ≠ []) :
    ∃ b off cap w3 F3, val V k = .slice (some ⟨b, off, none⟩) (xs.length + 1) cap ∧ xs.length + 1 ≤ cap ∧ cap ≤ maxLen ∧ (Instr.mapUpdate mt (.map (some m)) (.string k) (.slice (some ⟨b, off + 1, none⟩) xs.length (cap - 1))).run Pr w = .ok () w3 ∧
      Win e w3 m F3 (up P k.data.toList xs) ∧ (∀ b, F3 b → F b) ∧ Kept F w w3 := by
  rcases h.val_is k with ⟨_, h2, _⟩ | ⟨b, h1, h2, _, off, cap, cells, h3, h4, h5, h6, h7, h8⟩
  · rw [hP] at h2; cases h2
  · rw [hP] at h3 h5 h8
    obtain ⟨es', clock', hst, hent⟩ := Sm.store hk hm h.blk h.ent k hks (.slice (some ⟨b, off + 1, none⟩) xs.length (cap - 1))
    have hl : Lst e w (.slice (some ⟨b, off + 1, none⟩) xs.length (cap - 1)) xs b := by
      simp only [List.length_cons] at h5 h8
      refine ⟨off + 1, cap - 1, cells, rfl, h4, by omega, by omega, by omega, fun j hj => ?_⟩
      have := h8 (j + 1) (by omega)
      rw [show off + 1 + j = off + (j + 1) by omega]
      simpa using this
    have hput := h.put (clock' := clock') k (v := .slice (some ⟨b, off + 1, none⟩) xs.length (cap - 1)) (l := xs) (b := b) hne hl (.inr ⟨_, h1⟩) (Kept.refl _ _) hent
    refine ⟨b, off, cap, _, _, h3, by simpa using h5, h6, hst, ⟨_, _, _, hput⟩, ?_, (kept_set h.blk _).mono (fun x _ hx => by subst hx; exact h.own)⟩
    rintro b' (hb | rfl)
    · exact hb
    · exact h2
/-- 'delete(m, k)'. -/
theorem drop {Pr : Program} {kt mt t ty : TypeId} (hk : Pr.underlying kt = some .string) (hm : Pr.underlying mt = some (.map kt t)) (h : Is e w m F P es clock V) (k : ByteArray) (hks : k.size ≤ maxLen) :
    ∃ w3, (Builtin.delete_ #[mt, kt] ty #[.map (some m), .string k]).run Pr w = .ok (.tuple #[]) w3 ∧ Win e w3 m F (up P k.data.toList []) ∧ Kept F w w3 := by
  obtain ⟨es', hr, hent⟩ := Sm.del (ty := ty) hk hm h.blk h.ent k hks
  exact ⟨_, hr, ⟨_, _, _, h.del k hent⟩, (kept_set h.blk _).mono (fun x _ hx => by subst hx; exact h.own)⟩
end Is
end Go.Proofs.Ytgfbfmgdlbdlhaa.Win
