/-
  Bytes of the call's own: append of bytes and of strings, the way to a string and back.
  Contract: Data of vmfleetmake: some string of the length that is asked for.
  What a walk is told of a slice of integers that came in; small laws on worlds.
  Contracts: vmfleetmake.Event: some valid event, no clock (chapter 24).
  Plain laws, no program in sight: the encoding of a log segment.
  Plain laws, no program in sight: a log segment is read back (chapters 19, 24).
  Plain laws, no program in sight: the compressed form of chapter 20: matches, tokens, the way back.
-/
import Derived.Test.YthpjbffhdaaibaaGreatProg
import Derived.WalkKit
import Derived.Lib.Hide
import Derived.Lib.AppendStr
import Derived.Maps.AppendAt
import Derived.WalkSpells
import Derived.WalkLawsBesides
import Derived.Test.YthpjbffhdaaibaaGreatZ2
import Derived.Test.YthpjbffhdaaibaaGreatZ1
import Derived.Deep.Draws
import Derived.BigFrame
import Derived.RowKit
set_option linter.unusedVariables false
set_option maxRecDepth 100000
namespace Go.Proofs.YthpjbffhdaaibaaGreat
open Go.RowKit
namespace By
theorem take_snoc (s : ByteArray) (k : Nat) (h : k < s.size) : s.data.toList.take (k + 1) = s.data.toList.take k ++ [s[k]] := by
  rw [List.take_succ_eq_append_getElem (by simpa using h)]; rfl
theorem take_all (s : ByteArray) : s.data.toList.take s.size = s.data.toList := List.take_of_length_le (by simp)
theorem str_eq {a b : List UInt8} (h : a = b) : Ending.returned (.string ⟨a.toArray⟩) = .returned (.string ⟨b.toArray⟩) := by rw [h]
theorem Tryzby_u8 : (Tryz.prog.info? 5).map (fun i => (i.zero, i.size, i.bytes)) = some (some (.int .u8 0), 1, 1) := by kernel_rfl
/-- Bytes as the cells of a slice. -/
def by8 (l : List UInt8) : List Value := l.map fun c => Value.int .u8 c.toNat
theorem by8_append (a b : List UInt8) : by8 (a ++ b) = by8 a ++ by8 b := List.map_append
theorem by8_one (l : List UInt8) : ∀ u ∈ by8 l, u.oneCell' = true := by
  intro u hu; obtain ⟨c, _, rfl⟩ := List.mem_map.1 hu; rfl
theorem by8_at {l : List UInt8} {j : Nat} {u : Value} (h : (by8 l)[j]? = some u) : ∃ h : j < l.length, u = .int .u8 l[j].toNat := by
  unfold by8 at h
  rw [List.getElem?_map] at h
  cases e : l[j]? with
  | none => simp [e] at h
  | some c =>
    obtain ⟨hj, rfl⟩ := List.getElem?_eq_some_iff.1 e
    simp [e] at h
    exact ⟨hj, h.symm⟩
/-- Append to bytes that the call itself made. -/
theorem app_u8 (w : World) {ops : Array Oper} {rest : List Oper} {o : Oper} {a : Act} {Q : Exit → Act → World → Prop} (hgd : o.guard = none) (s x : Operand)
    (ho : o.op = .call { callee := .builtin .append, args := #[s, x], argTypes := #[63, 63] }) (base : Nat) (v : Value) (l news : List UInt8) (ad : Addr) (m c : Nat)
    (hs : a.eval s = v) (hown : w.ownsRow base 5 1 v l.length (by8 l)) (hx : a.eval x = .slice (some ad) m c) (hm : news.length = m)
    (hnews : ∀ j (h : j < news.length), w.cell? (ad.add j) = some (.int .u8 news[j].toNat)) (hb : l.length + m ≤ 140737488355328) (hbase : base ≤ w.heap.size)
    (h : ∀ v' w', w'.ownsRow base 5 1 v' (l ++ news).length (by8 (l ++ news)) → w.grownBy w' v.ownBlock → (v' = .slice none 0 0 ↔ v = .slice none 0 0 ∧ m = 0) → wpList Tryz.prog ops Q rest (a.put o.dst v') w') :
    wpList Tryz.prog ops Q (o :: rest) a w := by
  obtain ⟨i0, hi, hz0, hz1, hz2⟩ := info_parts Tryzby_u8
  refine wpList_append_own w hgd s x 63 ho base 5 i0 (.int .u8 0) 1 1 Tryz.underlying63 hi hz0 hz1 hz2 rfl (by decide) v l.length (by8 l) hs hown ad m c (by8 news) hx (by simp [by8, hm]) ?_ (by8_one news) (by unfold maxLen; omega) (by omega) hbase ?_
  · intro j u hj
    obtain ⟨hk, rfl⟩ := by8_at hj
    exact hnews j hk
  · intro v' w' h1 h2 h3
    refine h v' w' ?_ h2 h3
    rw [by8_append, List.length_append, hm]; exact h1
/-- A row of one byte that was just made. -/
theorem one_cell (w : World) (n : Int) (c : UInt8) (h : n = (c.toNat : Int)) (t : TypeId) : ∀ j (h : j < [c].length), (w.alloc (.cells #[.int .u8 n] t)).cell? ((⟨w.heap.size, 0, none⟩ : Addr).add j) = some (.int .u8 [c][j].toNat) := by
  intro j hj
  simp at hj
  subst hj h
  simp [Addr.add]

theorem by8_get (l : List UInt8) (j : Nat) (hj : j < l.length) : (by8 l)[j]? = some (.int .u8 l[j].toNat) := by
  unfold by8; rw [List.getElem?_map, List.getElem?_eq_getElem hj]; rfl
theorem addr_add (g j : Nat) : (⟨g, 0, none⟩ : Addr).add j = ⟨g, j, none⟩ := by
  unfold Addr.add; split
  · rename_i h; subst h; rfl
  · simp
/-- Bytes that the call owns, as a string. -/
theorem conv_own {w : World} {base : Nat} {v : Value} {l : List UInt8} (h : w.ownsRow base 5 1 v l.length (by8 l)) :
    (convert 63 9 v).run Tryz.prog w = .ok (.string ⟨l.toArray⟩) w := by
  have h' := h
  obtain ⟨_, h⟩ := h
  rcases h with ⟨rfl, h0⟩ | ⟨g, cap, cur, rfl, _⟩
  · have hl : l = [] := List.eq_nil_of_length_eq_zero h0
    subst hl
    have := run_convert_bytes_back (P := Tryz.prog) w 63 9 5 default 0 [] Tryz.underlying63 Tryz.underlying5 Tryz.underlying9 (fun j hj => absurd hj (by simp))
    rw [run_convert_bytes_string w _ _ _ none 0 0 Tryz.underlying63 Tryz.underlying5 Tryz.underlying9]
    rfl
  · exact run_convert_bytes_back (P := Tryz.prog) w 63 9 5 _ cap l Tryz.underlying63 Tryz.underlying5 Tryz.underlying9 (fun j hj => by
      have := h'.cellAt j (by omega)
      rw [by8_get l j hj] at this
      rw [addr_add]; exact this)
theorem below_app {W w w1 : World} {b : Nat} {v : Value} {e : TypeId} {size n : Nat} {xs : List Value} {o : Obj} (hb : Below b W w) (hbs : b ≤ w.heap.size) (hown : w.ownsRow b e size v n xs) (hg : (w.alloc o).grownBy w1 v.ownBlock) : Below b W w1 := by
  refine (hb.alloc hbs o).grown hg (by simp; omega) ?_
  intro k hk
  obtain ⟨_, h⟩ := hown
  rcases h with ⟨rfl, _⟩ | ⟨g, cap, cur, rfl, hg', _⟩
  · simp [Value.ownBlock] at hk
  · simp [Value.ownBlock] at hk; omega

/-- '[]byte(s)': a new block. -/
theorem bytes_of (s : ByteArray) (w : World) : ∃ (C : Array Value) (cap : Nat), s.size ≤ C.size ∧ (∀ i (h : i < s.size), C[i]? = some (.int .u8 s[i].toNat)) ∧
    (convert 9 63 (.string s)).run Tryz.prog w = .ok (.slice (some ⟨w.heap.size, 0, none⟩) s.size cap) (w.drew.alloc (.cells C 5 (C.size, C.size + 1))) := by
  refine ⟨bytesRow s (grownCap w s.size 0 5), grownCap w s.size 0 5, ?_, fun i h => bytesRow_at s _ i h, run_bytes_of_string (P := Tryz.prog) w 9 63 5 s Tryz.underlying9 Tryz.underlying63 Tryz.underlying5⟩
  rcases Nat.lt_or_ge (bytesRow s (grownCap w s.size 0 5)).size s.size with h | h
  · have := bytesRow_at s (grownCap w s.size 0 5) _ h
    simp at this
  · exact h
theorem bytes_back (w : World) (a : Addr) (cap : Nat) (l : List UInt8) (hc : ∀ j (hj : j < l.length), w.cell? (a.add j) = some (.int .u8 (l[j].toNat : Int))) :
    (convert 63 9 (.slice (some a) l.length cap)).run Tryz.prog w = .ok (.string ⟨l.toArray⟩) w :=
  run_convert_bytes_back w _ _ 5 a cap l Tryz.underlying63 Tryz.underlying5 Tryz.underlying9 hc
theorem drop_at (s : ByteArray) (k : Nat) (h : k < s.size) : s.data.toList.drop k = s[k] :: s.data.toList.drop (k + 1) := by
  rw [List.drop_eq_getElem_cons (by simpa using h)]; rfl
theorem strCells_by (s : ByteArray) : Lib.strCells s = by8 s.data.toList := by
  unfold Lib.strCells by8
  rfl
/-- Append of a string to bytes that the call itself made. -/
theorem app_str (w : World) {ops : Array Oper} {rest : List Oper} {o : Oper} {a : Act} {Q : Exit → Act → World → Prop} (hgd : o.guard = none) (s x : Operand)
    (ho : o.op = .call { callee := .builtin .append, args := #[s, x], argTypes := #[63, 9] }) (base : Nat) (v : Value) (l : List UInt8) (t : ByteArray)
    (hs : a.eval s = v) (hown : w.ownsRow base 5 1 v l.length (by8 l)) (hx : a.eval x = .string t) (hb : l.length + t.size ≤ 140737488355328) (hbase : base ≤ w.heap.size)
    (h : ∀ v' w', w'.ownsRow base 5 1 v' (l ++ t.data.toList).length (by8 (l ++ t.data.toList)) → w.grownBy w' v.ownBlock → wpList Tryz.prog ops Q rest (a.put o.dst v') w') :
    wpList Tryz.prog ops Q (o :: rest) a w := by
  obtain ⟨i0, hi, hz0, hz1, hz2⟩ := info_parts Tryzby_u8
  refine Lib.wpList_append_own_string w hgd s x 63 9 ho base 5 i0 Tryz.underlying63 Tryz.underlying9 hi hz0 hz1 hz2 v l.length (by8 l) hs hown t hx (by unfold maxLen; omega) hb hbase ?_
  intro v' w' h1 h2 _
  refine h v' w' ?_ h2
  rw [by8_append, List.length_append, ← strCells_by]
  simpa using h1
/-- The new value lies in the old one's block or in a new one. -/
def Moved (w : World) (v v' : Value) : Prop := ∀ g, v'.ownBlock = some g → v.ownBlock = some g ∨ w.heap.size ≤ g
theorem Moved.refl (w : World) (v : Value) : Moved w v v := fun g h => .inl h
theorem Moved.trans {w w1 : World} {a b c : Value} (h : Moved w a b) (k : Moved w1 b c) (hs : w.heap.size ≤ w1.heap.size) : Moved w a c := fun g hg => by
  rcases k g hg with h1 | h1
  · exact h g h1
  · exact .inr (Nat.le_trans hs h1)
theorem Moved.mono {w w1 : World} {a b : Value} (h : Moved w1 a b) (hs : w.heap.size ≤ w1.heap.size) : Moved w a b := fun g hg => (h g hg).imp id (Nat.le_trans hs)
theorem run_str {P : Program} (w : World) (base : Nat) (t u ty e : TypeId) (i : TypeInfo) (ht : P.underlying t = some (.slice e)) (hu : P.underlying u = some .string) (hi : P.info? e = some i) (hz : i.zero = some (.int .u8 0))
    (hsize : i.size = 1) (hby : i.bytes = 1) (v : Value) (n : Nat) (xs : List Value) (hown : w.ownsRow base e 1 v n xs) (s : ByteArray)
    (h63 : n + s.size ≤ maxLen) (hbytes : n + s.size ≤ 140737488355328) (hbase : base ≤ w.heap.size) :
    ∃ v' w', (Builtin.append_ #[t, u] ty #[v, .string s]).run P w = .ok v' w' ∧ w'.ownsRow base e 1 v' (n + s.size) (xs ++ Lib.strCells s) ∧ w.grownBy w' v.ownBlock ∧ Moved w v v' := by
  have hsm : ((n + s.size : Nat) : Int) ≤ 9223372036854775807 := by unfold maxLen at h63; omega
  rcases hown.2 with ⟨rfl, rfl⟩ | ⟨g, cap, cur, rfl, hbg, hg, hnc, hcm, hcs, htake⟩
  · obtain ⟨v', w', hr, h2, h3, _⟩ := Lib.run_append_own_string (P := P) w w.heap.size t u ty e i ht hu hi hz hsize hby (.slice none 0 0) 0 xs ⟨hown.1, .inl ⟨rfl, rfl⟩⟩ s h63 hbytes (Nat.le_refl _)
    refine ⟨v', w', hr, ⟨h2.1, h2.2.imp id fun ⟨g, cap, cur, a1, a2, a3⟩ => ⟨g, cap, cur, a1, Nat.le_trans hbase a2, a3⟩⟩, h3, fun g hg => .inr ?_⟩
    rcases h2.2 with ⟨rfl, _⟩ | ⟨g', cap, cur, rfl, h4, _⟩
    · cases hg
    · injection hg with hg
      subst hg; exact h4
  · obtain ⟨v', w', hr, h2, h3, _⟩ := Lib.run_append_own_string (P := P) w base t u ty e i ht hu hi hz hsize hby _ n xs hown s h63 hbytes hbase
    refine ⟨v', w', hr, h2, h3, ?_⟩
    by_cases hroom : n + s.size ≤ cap
    · have h5 := Lib.run_append_room_string (P := P) w t u ty e i ht hu hi hsize g n cap cur hg s hroom (by omega)
      rw [hr] at h5
      injection h5 with h5
      subst h5
      exact fun g hg => .inl hg
    · have h5 := Lib.run_append_grow_string (P := P) w t u ty e i (.int .u8 0) ht hu hi hz ⟨g, 0, none⟩ n cap xs (by rw [hsize]; exact hown.1) (hown.cells (g := g) rfl) s (by omega) hsm (by rw [hby]; exact growslice_fits (by omega) (by omega))
      rw [hr] at h5
      injection h5 with h5
      subst h5
      intro g hg
      injection hg with hg
      subst hg; exact .inr (Nat.le_refl _)
/-- Append of a string, .. and where the result lies. -/
theorem app_strM (w : World) {ops : Array Oper} {rest : List Oper} {o : Oper} {a : Act} {Q : Exit → Act → World → Prop} (hgd : o.guard = none) (s x : Operand)
    (ho : o.op = .call { callee := .builtin .append, args := #[s, x], argTypes := #[63, 9] }) (base : Nat) (v : Value) (l : List UInt8) (t : ByteArray)
    (hs : a.eval s = v) (hown : w.ownsRow base 5 1 v l.length (by8 l)) (hx : a.eval x = .string t) (hb : l.length + t.size ≤ 140737488355328) (hbase : base ≤ w.heap.size)
    (h : ∀ v' w', w'.ownsRow base 5 1 v' (l ++ t.data.toList).length (by8 (l ++ t.data.toList)) → w.grownBy w' v.ownBlock → Moved w v v' → wpList Tryz.prog ops Q rest (a.put o.dst v') w') :
    wpList Tryz.prog ops Q (o :: rest) a w := by
  obtain ⟨i0, hi, hz0, hz1, hz2⟩ := info_parts Tryzby_u8
  refine wpList_plain hgd fun K hK => ?_
  obtain ⟨v', w', hr, h2, h3, h4⟩ := run_str (P := Tryz.prog) w base 63 9 o.type 5 i0 Tryz.underlying63 Tryz.underlying9 hi hz0 hz1 hz2 v l.length (by8 l) hown t (by unfold maxLen; omega) hb hbase
  unfold Oper.wp execOp
  simp only [ho, resolve, invoke, builtin, Sem.run_bind, Sem.run_pure, Result.andThen_ok, List.map_toArray, List.map_cons, List.map_nil, hs, hx, hr]
  refine hK _ _ (h v' w' ?_ h3 h4)
  rw [by8_append, List.length_append, ← strCells_by]
  simpa using h2
/-- Append of bytes, .. and where the result lies. -/
theorem app_u8M (w : World) {ops : Array Oper} {rest : List Oper} {o : Oper} {a : Act} {Q : Exit → Act → World → Prop} (hgd : o.guard = none) (s x : Operand)
    (ho : o.op = .call { callee := .builtin .append, args := #[s, x], argTypes := #[63, 63] }) (base : Nat) (v : Value) (l news : List UInt8) (ad : Addr) (m c : Nat)
    (hs : a.eval s = v) (hown : w.ownsRow base 5 1 v l.length (by8 l)) (hx : a.eval x = .slice (some ad) m c) (hm : news.length = m)
    (hnews : ∀ j (h : j < news.length), w.cell? (ad.add j) = some (.int .u8 news[j].toNat)) (hb : l.length + m ≤ 140737488355328) (hbase : base ≤ w.heap.size)
    (h : ∀ v' w', w'.ownsRow base 5 1 v' (l ++ news).length (by8 (l ++ news)) → w.grownBy w' v.ownBlock → Moved w v v' → wpList Tryz.prog ops Q rest (a.put o.dst v') w') :
    wpList Tryz.prog ops Q (o :: rest) a w := by
  obtain ⟨i0, hi, hz0, hz1, hz2⟩ := info_parts Tryzby_u8
  refine wpList_append_own_at w hgd s x 63 ho base 5 i0 (.int .u8 0) 1 1 Tryz.underlying63 hi hz0 hz1 hz2 rfl (by decide) v l.length (by8 l) hs hown ad m c (by8 news) hx (by simp [by8, hm]) ?_ (by8_one news) (by unfold maxLen; omega) (by omega) hbase ?_
  · intro j u hj
    obtain ⟨hk, rfl⟩ := by8_at hj
    exact hnews j hk
  · intro v' w' h1 h2 h3 h4
    refine h v' w' ?_ h2 (fun g hg => ?_)
    · rw [by8_append, List.length_append, hm]; exact h1
    · rcases h4 with h4 | h4
      · exact .inl (h4 ▸ hg)
      · rw [h4] at hg; injection hg with hg; exact .inr (by omega)
/-- At a step of a region that draws its order: append of bytes. -/
theorem app_u8S (w : World) {ops : Array Oper} {o : Oper} {a : Act} {K : Act → World → Prop} {Q : Exit → Act → World → Prop} {E : Prop} (hgd : o.guard = none) (s x : Operand)
    (ho : o.op = .call { callee := .builtin .append, args := #[s, x], argTypes := #[63, 63] }) (base : Nat) (v : Value) (l news : List UInt8) (ad : Addr) (m c : Nat)
    (hs : a.eval s = v) (hown : w.ownsRow base 5 1 v l.length (by8 l)) (hx : a.eval x = .slice (some ad) m c) (hm : news.length = m)
    (hnews : ∀ j (h : j < news.length), w.cell? (ad.add j) = some (.int .u8 news[j].toNat)) (hb : l.length + m ≤ 140737488355328) (hbase : base ≤ w.heap.size)
    (h : ∀ v' w', w'.ownsRow base 5 1 v' (l ++ news).length (by8 (l ++ news)) → w.grownBy w' v.ownBlock → Moved w v v' → K (a.put o.dst v') w') :
    if Region.wanted o (yielded ops a.tmps) = true then Oper.wp Tryz.prog o a w K Q else E := by
  obtain ⟨i0, hi, hz0, hz1, hz2⟩ := info_parts Tryzby_u8
  have hw : Region.wanted o (yielded ops a.tmps) = true := by simp [Region.wanted, hgd]
  rw [if_pos hw]
  obtain ⟨v', w', hr, h1, h2, h3, h4⟩ := run_append_own_at (P := Tryz.prog) w base 63 o.type 5 i0 (.int .u8 0) 1 1 Tryz.underlying63 hi hz0 hz1 hz2 rfl (by decide) v l.length (by8 l) hown ad m c (by8 news) (by simp [by8, hm])
    (fun j u hj => by obtain ⟨hk, rfl⟩ := by8_at hj; exact hnews j hk) (by8_one news) (by unfold maxLen; omega) (by omega) hbase
  unfold Oper.wp execOp
  simp only [ho, resolve, invoke, builtin, Sem.run_bind, Sem.run_pure, Result.andThen_ok, List.map_toArray, List.map_cons, List.map_nil, hs, hx, hr]
  refine h v' w' ?_ h2 (fun g hg => ?_)
  · rw [by8_append, List.length_append, hm]; exact h1
  · rcases h4 with h4 | h4
    · exact .inl (h4 ▸ hg)
    · rw [h4] at hg; injection hg with hg; exact .inr (by omega)
/-- At a step of a region that draws its order: append of a string. -/
theorem app_strS (w : World) {ops : Array Oper} {o : Oper} {a : Act} {K : Act → World → Prop} {Q : Exit → Act → World → Prop} {E : Prop} (hgd : o.guard = none) (s x : Operand)
    (ho : o.op = .call { callee := .builtin .append, args := #[s, x], argTypes := #[63, 9] }) (base : Nat) (v : Value) (l : List UInt8) (t : ByteArray)
    (hs : a.eval s = v) (hown : w.ownsRow base 5 1 v l.length (by8 l)) (hx : a.eval x = .string t) (hb : l.length + t.size ≤ 140737488355328) (hbase : base ≤ w.heap.size)
    (h : ∀ v' w', w'.ownsRow base 5 1 v' (l ++ t.data.toList).length (by8 (l ++ t.data.toList)) → w.grownBy w' v.ownBlock → Moved w v v' → K (a.put o.dst v') w') :
    if Region.wanted o (yielded ops a.tmps) = true then Oper.wp Tryz.prog o a w K Q else E := by
  obtain ⟨i0, hi, hz0, hz1, hz2⟩ := info_parts Tryzby_u8
  have hw : Region.wanted o (yielded ops a.tmps) = true := by simp [Region.wanted, hgd]
  rw [if_pos hw]
  obtain ⟨v', w', hr, h2, h3, h4⟩ := run_str (P := Tryz.prog) w base 63 9 o.type 5 i0 Tryz.underlying63 Tryz.underlying9 hi hz0 hz1 hz2 v l.length (by8 l) hown t (by unfold maxLen; omega) hb hbase
  unfold Oper.wp execOp
  simp only [ho, resolve, invoke, builtin, Sem.run_bind, Sem.run_pure, Result.andThen_ok, List.map_toArray, List.map_cons, List.map_nil, hs, hx, hr]
  refine h v' w' ?_ h3 h4
  rw [by8_append, List.length_append, ← strCells_by]
  simpa using h2
/-- At a step of a region that draws its order: an append of which the run is known. -/
theorem step_run {P : Program} {ops : Array Oper} {o : Oper} {a : Act} {w : World} {K : Act → World → Prop} {Q : Exit → Act → World → Prop} {E : Prop} (hgd : o.guard = none) (s x : Operand) (t u ty : TypeId)
    (ho : o.op = .call { callee := .builtin .append, args := #[s, x], argTypes := #[t, u] }) (hty : o.type = ty) {v y v' : Value} {w' : World} (hs : a.eval s = v) (hx : a.eval x = y) (hr : (Builtin.append_ #[t, u] ty #[v, y]).run P w = .ok v' w') (h : K (a.put o.dst v') w') :
    if Region.wanted o (yielded ops a.tmps) = true then Oper.wp P o a w K Q else E := by
  have hw : Region.wanted o (yielded ops a.tmps) = true := by simp [Region.wanted, hgd]
  subst hty
  rw [if_pos hw]
  unfold Oper.wp execOp
  simp only [ho, resolve, invoke, builtin, Sem.run_bind, Sem.run_pure, Result.andThen_ok, List.map_toArray, List.map_cons, List.map_nil, hs, hx, hr]
  exact h
/-- delete, of which the run is known. -/
theorem list_delete {P : Program} {ops : Array Oper} {rest : List Oper} {o : Oper} {a : Act} {w : World} {Q : Exit → Act → World → Prop} (hgd : o.guard = none) (s x : Operand) (t u ty : TypeId)
    (ho : o.op = .call { callee := .builtin .delete, args := #[s, x], argTypes := #[t, u] }) (hty : o.type = ty) {v y v' : Value} {w' : World} (hs : a.eval s = v) (hx : a.eval x = y) (hr : (Builtin.delete_ #[t, u] ty #[v, y]).run P w = .ok v' w') (h : wpList P ops Q rest (a.put o.dst v') w') :
    wpList P ops Q (o :: rest) a w := by
  refine wpList_plain hgd fun K hK => ?_
  subst hty
  unfold Oper.wp execOp
  simp only [ho, resolve, invoke, builtin, Sem.run_bind, Sem.run_pure, Result.andThen_ok, List.map_toArray, List.map_cons, List.map_nil, hs, hx, hr]
  exact hK _ _ h
/-- A row of two bytes that was just made. -/
theorem two_cells (w : World) (n k : Int) (c d : UInt8) (h : n = (c.toNat : Int)) (h' : k = (d.toNat : Int)) (t : TypeId) : ∀ j (h : j < [c, d].length), (w.alloc (.cells #[.int .u8 n, .int .u8 k] t)).cell? ((⟨w.heap.size, 0, none⟩ : Addr).add j) = some (.int .u8 [c, d][j].toNat) := by
  intro j hj
  subst h h'
  match j, hj with
  | 0, _ => simp [Addr.add]
  | 1, _ => simp [Addr.add]
/-- A byte of a string, its index spelled in whatever way. -/
theorem idx (s : ByteArray) (n : Int) (k : Nat) (hn : n = k) (hk : k < s.size) : ∀ w, (Instr.index 9 (.string s) (.int .i64 n)).run Tryz.prog w = .ok (.int .u8 (s[k].toNat : Int)) w := by
  intro w
  subst hn
  rw [run_index_string w _ s .i64 k Tryz.underlying9]
  simp [hk]
end By
end Go.Proofs.YthpjbffhdaaibaaGreat

namespace Go.Proofs.YthpjbffhdaaibaaGreat
open Go.RowKit
open By
set_option linter.unusedVariables false
set_option maxRecDepth 100000
namespace Mk
theorem grown_held {W w w1 : World} {v : Value} {e : TypeId} {size n : Nat} {xs : List Value} {o : Obj} (hb : Held W w) (hown : w.ownsRow W.heap.size e size v n xs) (hg : (w.alloc o).grownBy w1 v.ownBlock) : Held W w1 := below_app hb hb.size hown hg
theorem wrap8 (x : Int) : IntKind.u8.wrap x = ((UInt8.ofNat (x % 256).toNat).toNat : Int) := by
  rw [IntKind.wrap_u8]
  simp [UInt8.toNat_ofNat']; omega
theorem mod8 (x : Nat) : ((x : Int) % 256) = ((UInt8.ofNat (x % 256)).toNat : Int) := by
  simp [UInt8.toNat_ofNat']
theorem data_any (n : Int) (k : Nat) (w : World) (hk : (k : Int) ≤ 100000) :
    Calls Tryz.prog 92 #[.int .i64 n, .int .i64 k] w fun e w' => ∃ l : List UInt8, l.length = k ∧ e = .returned (.string ⟨l.toArray⟩) ∧ Held w w' := by
  go_enter Tryz.func92, Tryz.ntmps92
  go_wp2
  go_loopw [5, 6] (fun o i wr => ∃ (l : List UInt8) (j : Nat), i = .int .i64 j ∧ j ≤ k ∧ l.length = j ∧ wr.ownsRow w.heap.size 5 1 o l.length (by8 l) ∧ Held w wr) (fun _ i _ => k - (intOf i).toNat)
  case atStart => exact ⟨[], 0, rfl, Nat.zero_le _, rfl, World.ownsRow_nil _ _ _ _, Held.refl _⟩
  case round =>
    obtain ⟨l, j, rfl, hj, hl, hown, hh⟩ := hrel
    have HH := Lib.hid (And.intro hown hh)
    have hle := hh.le
    have HL := Lib.hid hl
    have hl2 : l.length ≤ 100000 := by omega
    clear hh hl
    by_cases hlt : (j : Int) < k
    · go_wp2_with (first | (go_at_call 91; refine (mix_any _ _ _).mono ?_; rintro e w' ⟨rfl, rfl⟩) | (at_builtin; refine app_u8M _ rfl _ _ rfl w.heap.size _ l [UInt8.ofNat ((mix n ((j : Int) / 9)) % 256)] ⟨wr.heap.size, 0, none⟩ 1 1 rfl (hown.alloc _) rfl rfl (one_cell _ _ _ (mod8 _) _) (by omega) (by simp; omega) ?_; intro o4 w4 hown4 hg4 hm4))
      go_roundw
      case rel => exact ⟨l ++ [UInt8.ofNat ((mix n ((j : Int) / 9)) % 256)], j + 1, by go_num, by omega, by rw [List.length_append, HL.out]; rfl, hown4, grown_held HH.out.2 HH.out.1 hg4⟩
      case measure => (simp [intOf]) <;> omega
    · have hcv := conv_own hown
      have hjk : Hid (l.length = k) := by show _ = _; rw [HL.out]; omega
      go_wp2
      go_ret
      exact ⟨l, hjk.out, rfl, HH.out.2⟩
end Mk
end Go.Proofs.YthpjbffhdaaibaaGreat

namespace Go.Proofs.YthpjbffhdaaibaaGreat.Rw
open Go.RowKit
set_option linter.unusedVariables false
/-- It is nil; or it leads to a row of 'cap' cells, the numbers 'zs' (the first 'len' are its elements). -/
def IsRow (k : IntKind) (w : World) (a : Option Addr) (len cap : Nat) (zs : List Int) : Prop :=
  (a = none ∧ len = 0 ∧ cap = 0 ∧ zs = []) ∨
  ∃ x, a = some x ∧ len ≤ cap ∧ cap ≤ maxLen ∧ zs.length = cap ∧ (∀ i, i < zs.length → w.cell? (x.add i) = some (.int k (zs.getD i 0))) ∧ ∀ n ∈ zs, (Lit.int k n).wf = true
/-- A row as a list of its elements. -/
theorem IsRow.view {k : IntKind} {w : World} {a : Option Addr} {len cap : Nat} {zs : List Int} (h : IsRow k w a len cap zs) :
    ∃ L : List Int, L.length = len ∧ len ≤ maxLen ∧ (∀ n ∈ L, (Lit.int k n).wf = true) ∧ (len = 0 ∨ ∃ b off, a = some ⟨b, off, none⟩ ∧ b < w.heap.size ∧ ∀ i (h : i < L.length), w.cell? ⟨b, off + i, none⟩ = some (.int k L[i])) := by
  rcases h with ⟨rfl, rfl, rfl, rfl⟩ | ⟨⟨b, off, spot⟩, rfl, hl, hm, hz, hc, hw⟩
  · exact ⟨[], rfl, Nat.zero_le _, by simp, .inl rfl⟩
  · refine ⟨zs.take len, by simp; omega, Nat.le_trans hl hm, fun n hn => hw n (List.mem_of_mem_take hn), ?_⟩
    by_cases h0 : len = 0
    · exact .inl h0
    · have hc0 := hc 0 (by omega)
      have hspot : spot = none := by simpa [Addr.add] using World.cell?_spot hc0
      subst hspot
      refine .inr ⟨b, off, rfl, ?_, fun i hi => ?_⟩
      · rcases Nat.lt_or_ge b w.heap.size with h | h
        · exact h
        · simp [Addr.add, World.cell?, Array.getElem?_eq_none h] at hc0
      · simp at hi
        have := hc i (by omega)
        have e : (⟨b, off, none⟩ : Addr).add i = ⟨b, off + i, none⟩ := by
          unfold Addr.add; split
          · rename_i h; subst h; rfl
          · rfl
        rw [e] at this
        rw [this]; simp [List.getD_eq_getElem?_getD, List.getElem?_eq_getElem (show i < zs.length by omega)]
theorem bd_u32 {a : Int} (h : (Lit.int .u32 a).wf = true) : 0 ≤ a ∧ a ≤ 4294967295 := by
  simp [Lit.wf, IntKind.min, IntKind.max, IntKind.signed, IntKind.bits] at h; omega
theorem bd_u64 {a : Int} (h : (Lit.int .u64 a).wf = true) : 0 ≤ a ∧ a ≤ 18446744073709551615 := by
  simp [Lit.wf, IntKind.min, IntKind.max, IntKind.signed, IntKind.bits] at h; omega
theorem bd_u8 {a : Int} (h : (Lit.int .u8 a).wf = true) : 0 ≤ a ∧ a ≤ 255 := by
  simp [Lit.wf, IntKind.min, IntKind.max, IntKind.signed, IntKind.bits] at h; omega
theorem bd_i64 {a : Int} (h : (Lit.int .i64 a).wf = true) : -9223372036854775808 ≤ a ∧ a ≤ 9223372036854775807 := by
  simp [Lit.wf, IntKind.min, IntKind.max, IntKind.signed, IntKind.bits] at h; omega
theorem bd_i32 {a : Int} (h : (Lit.int .i32 a).wf = true) : -2147483648 ≤ a ∧ a ≤ 2147483647 := by
  simp [Lit.wf, IntKind.min, IntKind.max, IntKind.signed, IntKind.bits] at h; omega
theorem below_drewN {B : Nat} {a w : World} (h : Below B a w) : ∀ n, Below B a (w.drewN n)
  | 0 => h
  | n + 1 => ⟨h.os, h.tape, h.output, h.size, h.block⟩
/-- What lies below stays below behind a callee that keeps all that was there. -/
theorem trans' {B : Nat} {a b c : World} (h : Below B a b) (hB : B ≤ b.heap.size) (k : Below b.heap.size b c) : Below B a c := h.trans (k.mono hB)
end Go.Proofs.YthpjbffhdaaibaaGreat.Rw

set_option linter.unusedVariables false
set_option linter.unusedSimpArgs false
set_option maxRecDepth 100000
namespace Go.Proofs.YthpjbffhdaaibaaGreat
open Go.RowKit Go.BigFrame Go.Sort
namespace Evg
open Lgc Lg Rw
/-- Some valid event, no clock's. -/
def EvM (w : World) (e : Ending) (w' : World) : Prop := ∃ (k n : Int) (d : ByteArray), e = .returned (.agg #[.int .i64 k, .int .u32 n, .string d]) ∧ (2 ≤ k ∧ k ≤ 6) ∧ (0 ≤ n ∧ n ≤ 4294967295) ∧ d.size ≤ 200 ∧ Ev.ok k n d.data.toList = true ∧ Held w w'
theorem EvM.mk {w w' : World} {k n : Int} {d : ByteArray} (h1 : 2 ≤ k ∧ k ≤ 6) (h2 : 0 ≤ n ∧ n ≤ 4294967295) (h3 : d.size ≤ 200) (h5 : Ev.ok k n d.data.toList = true) (h4 : Held w w') : EvM w (.returned (.agg #[.int .i64 k, .int .u32 n, .string d])) w' := ⟨k, n, d, rfl, h1, h2, h3, h5, h4⟩
theorem ok3 {n : Int} (h : n ≤ 255) : Ev.ok 3 n [] = true := by simp [Ev.ok, Ev.okE, h]
theorem ok6 (n : Int) : Ev.ok 6 n [] = true := by simp [Ev.ok, Ev.okE]
theorem ok4 {l : List UInt8} (h : l.length = 128) : Ev.ok 4 1 l = true := by simp [Ev.ok, Ev.okE, h]
theorem ok5 {l : List UInt8} (h1 : 1 ≤ l.length) (h2 : l.length ≤ 128) : Ev.ok 5 0 l = true := by simp [Ev.ok, Ev.okE, h1, h2]
theorem held3 {W w : World} {b : Nat} (h : Held W w) (hb : W.heap.size ≤ b) (x y z : Value) : Held W (((w.setCell ⟨b, 0, none⟩ x).setCell ⟨b, 1, none⟩ y).setCell ⟨b, 2, none⟩ z) := ((h.set hb _).set hb _).set hb _
theorem res_c {fn : Func} {tmps : Array Value} {w : World} {a b : Nat} {t : TypeId} {v : Value} (hr : fn.results = #[.cell a t]) (ha : tmps.getD a undef = .pointer (some ⟨b, 0, none⟩)) (hl : (loadVar t ⟨b, 0, none⟩).run Tryz.prog w = .ok v w) : (results fn tmps).run Tryz.prog w = .ok v w := by
  unfold results
  rw [hr]
  simp only [List.mapM_toArray, List.mapM_cons, List.mapM_nil, ha, asAddr, pure_bind, Sem.run_bind, Sem.run_map, hl, Result.andThen_ok, Sem.run_pure, map_pure]
  rfl
/-- An event's box. -/
def EB (w : World) (b : Nat) (k n : Int) (d : ByteArray) : Prop := w.heap[b]? = some (.cells #[.int .i64 k, .int .u32 n, .string d] 68 (0, 0))
theorem EB.load {w : World} {b : Nat} {k n : Int} {d : ByteArray} (h : EB w b k n d) : (loadVar 68 ⟨b, 0, none⟩).run Tryz.prog w = .ok (.agg #[.int .i64 k, .int .u32 n, .string d]) w := by
  have c0 := box_cell h 0 rfl
  have c1 := box_cell h 1 rfl
  have c2 := box_cell h 2 rfl
  simp [go_sem, c0, c1, c2]
theorem EB.put {w : World} {b : Nat} {k n : Int} {d : ByteArray} (h : EB w b k n d) (k' n' : Int) (d' : ByteArray) : EB (((w.setCell ⟨b, 0, none⟩ (.int .i64 k')).setCell ⟨b, 1, none⟩ (.int .u32 n')).setCell ⟨b, 2, none⟩ (.string d')) b k' n' d' := by
  unfold EB at h ⊢
  rw [box_set (box_set (box_set h 0 _) 1 _) 2 _]; rfl
theorem EB.facts {w : World} {b : Nat} {k n : Int} {d : ByteArray} (h : EB w b k n d) : (w.cell? ⟨b, 0, none⟩ = some (.int .i64 k) ∧ w.cell? ⟨b, 1, none⟩ = some (.int .u32 n) ∧ w.cell? ⟨b, 2, none⟩ = some (.string d)) ∧ (w.frozen? ⟨b, 0, none⟩ = false ∧ w.frozen? ⟨b, 1, none⟩ = false ∧ w.frozen? ⟨b, 2, none⟩ = false) ∧ b < w.heap.size :=
  ⟨⟨box_cell h 0 rfl, box_cell h 1 rfl, box_cell h 2 rfl⟩, ⟨box_free h 0, box_free h 1, box_free h 2⟩, box_lt h⟩
theorem EB.new (w : World) (k n : Int) (d : ByteArray) : EB (w.alloc (.cells #[.int .i64 k, .int .u32 n, .string d] 68)) w.heap.size k n d := box_new _ _
set_option maxHeartbeats 2000000 in
theorem event_any (n : Int) (w : World) : Calls Tryz.prog 66 #[.int .i64 n] w (EvM w) := by
  obtain ⟨v, hv⟩ : ∃ v, Mk.mix n 2 = v := ⟨_, rfl⟩
  have hvl := Mk.mix_lt n 2
  have HM := Lib.hid (fun w => Mk.mix_any n 2 w)
  rw [hv] at hvl HM
  clear hv
  have a1 : bits .and .i64 ((v : Int) / 256) 255 = ((v / 256 &&& 255 : Nat) : Int) := Mk.and_i64 (v / 256) 255 (by omega) (by omega)
  have l1 : v / 256 &&& 255 ≤ 255 := Nat.and_le_right
  generalize v / 256 &&& 255 = x1 at a1 l1
  have hm : (v : Int) % 7 = 0 ∨ (v : Int) % 7 = 1 ∨ (v : Int) % 7 = 2 ∨ (v : Int) % 7 = 3 ∨ (v : Int) % 7 = 4 ∨ (v : Int) % 7 = 5 ∨ (v : Int) % 7 = 6 := by omega
  have hv0 : (0 : Int) ≤ v := by omega
  have hq1 : (0 : Int) ≤ (v : Int) / 256 := by omega
  have hq40 : ((v : Int) / 256) % 40 = ((v / 256 % 40 : Nat) : Int) := by omega
  have hq40b : v / 256 % 40 < 40 := Nat.mod_lt _ (by omega)
  have hq3 : ((v : Int) / 256) % 3 = ((v / 256 % 3 : Nat) : Int) := by omega
  have hq3b : v / 256 % 3 < 3 := Nat.mod_lt _ (by omega)
  generalize v / 256 % 40 = y40 at hq40 hq40b
  generalize v / 256 % 3 = y3 at hq3 hq3b
  have D128 : Hid (∀ w, Calls Tryz.prog 92 #[.int .i64 v, .int .i64 128] w fun e w' => ∃ l : List UInt8, l.length = 128 ∧ e = .returned (.string ⟨l.toArray⟩) ∧ Held w w') := fun w => Mk.data_any v 128 w (by decide)
  have D40 : Hid (∀ w, Calls Tryz.prog 92 #[.int .i64 v, .int .i64 (1 + y40)] w fun e w' => ∃ l : List UInt8, l.length = 1 + y40 ∧ e = .returned (.string ⟨l.toArray⟩) ∧ Held w w') := fun w => by
    have := Mk.data_any v (1 + y40) w (by omega)
    rw [Int.natCast_add] at this
    exact this
  have W0 := Lib.hid ((Held.refl w).alloc (.cells #[.int .i64 0, .int .u32 0, .string ⟨#[]⟩] 68))
  rcases hm with hm | hm | hm | hm | hm | hm | hm
  · clear a1 hq40 hq3
    go_enter Tryz.func66, Tryz.ntmps66
    go_wp2_with (go_at_call 91; refine (HM.out _).mono ?_; rintro e w' ⟨rfl, rfl⟩)
    refine bodyPost_ret (v := .agg #[.int .i64 2, .int .u32 0, .string ⟨#[]⟩]) (by simp [results, Tryz.results66, go_sem]) rfl (EvM.mk (by omega) (by omega) (by decide) (by first | rfl | exact ok3 (by omega) | exact ok6 _) ?_)
    first | exact W0.out | exact (Held.refl w).alloc _ | exact held3 W0.out (Nat.le_refl _) _ _ _
  · clear hq40 hq3
    go_enter Tryz.func66, Tryz.ntmps66
    go_wp2_with (go_at_call 91; refine (HM.out _).mono ?_; rintro e w' ⟨rfl, rfl⟩)
    refine bodyPost_ret (v := .agg #[.int .i64 3, .int .u32 x1, .string ⟨#[]⟩]) (by simp [results, Tryz.results66, go_sem]) rfl (EvM.mk (by omega) (by omega) (by decide) (by first | rfl | exact ok3 (by omega) | exact ok6 _) ?_)
    first | exact W0.out | exact (Held.refl w).alloc _ | exact held3 W0.out (Nat.le_refl _) _ _ _
  · clear hq40 hq3
    go_enter Tryz.func66, Tryz.ntmps66
    go_wp2_with (go_at_call 91; refine (HM.out _).mono ?_; rintro e w' ⟨rfl, rfl⟩)
    refine bodyPost_ret (v := .agg #[.int .i64 3, .int .u32 x1, .string ⟨#[]⟩]) (by simp [results, Tryz.results66, go_sem]) rfl (EvM.mk (by omega) (by omega) (by decide) (by first | rfl | exact ok3 (by omega) | exact ok6 _) ?_)
    first | exact W0.out | exact (Held.refl w).alloc _ | exact held3 W0.out (Nat.le_refl _) _ _ _
  · clear a1 hq40 hq3
    go_enter Tryz.func66, Tryz.ntmps66
    go_wp2_with (go_at_call 91; refine (HM.out _).mono ?_; rintro e w' ⟨rfl, rfl⟩)
    refine bodyPost_ret (v := .agg #[.int .i64 4, .int .u32 1, .string ⟨#[]⟩]) (by simp [results, Tryz.results66, go_sem]) rfl (EvM.mk (by omega) (by omega) (by decide) (by first | rfl | exact ok3 (by omega) | exact ok6 _) ?_)
    first | exact W0.out | exact (Held.refl w).alloc _ | exact held3 W0.out (Nat.le_refl _) _ _ _
  · clear a1 hq40 hq3
    go_enter Tryz.func66, Tryz.ntmps66
    go_wp2_with (first | (go_at_call 91; refine (HM.out _).mono ?_; rintro e w' ⟨rfl, rfl⟩) | (go_at_call 92; refine (D128.out _).mono ?_; rintro e w2 ⟨l, hl, rfl, h2⟩; have B2 := Lib.hid ((h2.block _ (by simp)).trans (EB.new w 0 0 ⟨#[]⟩)); obtain ⟨⟨c0, c1, c2⟩, ⟨f0, f1, f2⟩, hlt⟩ := EB.facts B2.out; have W2 := Lib.hid (W0.out.step h2); have HL := Lib.hid hl; clear h2 hl))
    refine bodyPost_ret (res_c Tryz.results66 rfl (EB.load (EB.put B2.out 4 1 ⟨l.toArray⟩))) rfl (EvM.mk (by omega) (by omega) (by rw [ba_size, HL.out]; omega) (by first | exact ok4 (by simpa using HL.out) | exact ok5 (by have := HL.out; simp only [List.toList_toArray]; omega) (by have := HL.out; simp only [List.toList_toArray]; omega)) ?_)
    exact held3 W2.out (Nat.le_refl _) _ _ _
  · clear a1 hq3
    go_enter Tryz.func66, Tryz.ntmps66
    go_wp2_with (first | (go_at_call 91; refine (HM.out _).mono ?_; rintro e w' ⟨rfl, rfl⟩) | (go_at_call 92; refine (D40.out _).mono ?_; rintro e w2 ⟨l, hl, rfl, h2⟩; have B2 := Lib.hid ((h2.block _ (by simp)).trans (EB.new w 0 0 ⟨#[]⟩)); obtain ⟨⟨c0, c1, c2⟩, ⟨f0, f1, f2⟩, hlt⟩ := EB.facts B2.out; have W2 := Lib.hid (W0.out.step h2); have HL := Lib.hid hl; clear h2 hl))
    refine bodyPost_ret (res_c Tryz.results66 rfl (EB.load (EB.put B2.out 5 0 ⟨l.toArray⟩))) rfl (EvM.mk (by omega) (by omega) (by rw [ba_size, HL.out]; omega) (by first | exact ok4 (by simpa using HL.out) | exact ok5 (by have := HL.out; simp only [List.toList_toArray]; omega) (by have := HL.out; simp only [List.toList_toArray]; omega)) ?_)
    exact held3 W2.out (Nat.le_refl _) _ _ _
  · clear hq40
    obtain ⟨z, hz⟩ : ∃ z, ((v : Int) / 256) % 4 = z := ⟨_, rfl⟩
    by_cases hz0 : z = 0
    · have hzb : (z == 0) = true := by simp [hz0]
      clear hz0 a1 hq3
      · skip
        go_enter Tryz.func66, Tryz.ntmps66
        go_wp2_with (go_at_call 91; refine (HM.out _).mono ?_; rintro e w' ⟨rfl, rfl⟩)
        refine bodyPost_ret (v := .agg #[.int .i64 4, .int .u32 0, .string ⟨#[]⟩]) (by simp [results, Tryz.results66, go_sem]) rfl (EvM.mk (by omega) (by omega) (by decide) (by first | rfl | exact ok3 (by omega) | exact ok6 _) ?_)
        first | exact W0.out | exact (Held.refl w).alloc _ | exact held3 W0.out (Nat.le_refl _) _ _ _
    · have hzb : (z == 0) = false := by simp [hz0]
      clear hz0 a1
      · skip
        go_enter Tryz.func66, Tryz.ntmps66
        go_wp2_with (go_at_call 91; refine (HM.out _).mono ?_; rintro e w' ⟨rfl, rfl⟩)
        refine bodyPost_ret (v := .agg #[.int .i64 6, .int .u32 y3, .string ⟨#[]⟩]) (by simp [results, Tryz.results66, go_sem]) rfl (EvM.mk (by omega) (by omega) (by decide) (by first | rfl | exact ok3 (by omega) | exact ok6 _) ?_)
        first | exact W0.out | exact (Held.refl w).alloc _ | exact held3 W0.out (Nat.le_refl _) _ _ _
end Evg
end Go.Proofs.YthpjbffhdaaibaaGreat

set_option linter.unusedVariables false
namespace Go.Proofs.YthpjbffhdaaibaaGreat.Enc
open Go.RowKit
/-- An entry: its position, and its event's kind, number and data. -/
structure Ent where
  t : Nat
  k : Int
  n : Int
  d : ByteArray
def entC (x : Ent) : List Value := [.int .u64 (x.t : Int), .int .i64 x.k, .int .u32 x.n, .string x.d]
theorem entC_len (x : Ent) : (entC x).length = 4 := rfl
theorem entC_one (x : Ent) : ∀ u ∈ entC x, u.oneCell' = true := by
  intro u hu
  simp only [entC, List.mem_cons, List.not_mem_nil, or_false] at hu
  rcases hu with rfl | rfl | rfl | rfl <;> rfl
/-- The fields lie in their types. -/
structure EntOK (x : Ent) : Prop where
  t : x.t < 18446744073709551616
  k1 : -9223372036854775808 ≤ x.k
  k2 : x.k ≤ 9223372036854775807
  n1 : 0 ≤ x.n
  n2 : x.n ≤ 4294967295
  d : (x.d.size : Int) ≤ 9223372036854775807
def okX (x : Ent) : Bool := Ev.ok x.k x.n x.d.data.toList
def encE (k n : Int) (d : List UInt8) : List UInt8 :=
  if k = 1 ∨ k = 3 ∨ k = 6 then Uv.put k.toNat ++ Uv.put n.toNat else if k = 4 then Uv.put k.toNat ++ Uv.put n.toNat ++ (Uv.put d.length ++ d)
  else if k = 5 then Uv.put k.toNat ++ (Uv.put d.length ++ d) else Uv.put k.toNat
/-- y may not stand behind x. -/
def adj (x y : Ent) : Bool := decide (y.t < x.t) || (decide (y.t = x.t) && decide (x.k = 1))
def ordTo (L : List Ent) : Nat → Bool
  | 0 => true
  | k + 1 => ordTo L k && (match L[k]?, L[k + 1]? with | some x, some y => !adj x y | _, _ => true)
def ord (L : List Ent) : Bool := ordTo L (L.length - 1)
def lastT (f : Nat) (L : List Ent) : Nat := match L.getLast? with | some x => x.t | none => f
def encF (f : Nat) : List Ent → List UInt8
  | [] => []
  | x :: L => Uv.put (x.t - f) ++ encE x.k x.n x.d.data.toList ++ encF x.t L
def early (L : List Ent) (f : Nat) : Bool := match L[0]? with | some x => decide (x.t < f) | none => false
def encode (L : List Ent) (f : Nat) : List UInt8 × Int :=
  if 400 < L.length then ([], 1902) else if L.all okX = false then ([], 1900) else if (!ord L || early L f) = true then ([], 1901)
  else if 65536 < (Uv.put L.length ++ encF f L).length then ([], 1902) else (Uv.put L.length ++ encF f L, 0)
theorem lastT_snoc (f : Nat) (L : List Ent) (x : Ent) : lastT f (L ++ [x]) = x.t := by simp [lastT]
theorem encF_snoc (x : Ent) : ∀ (L : List Ent) (f : Nat), encF f (L ++ [x]) = encF f L ++ (Uv.put (x.t - lastT f L) ++ encE x.k x.n x.d.data.toList)
  | [], f => by simp [encF, lastT]
  | [y], f => by simp [encF, lastT]
  | y :: z :: L, f => by
    have ih := encF_snoc x (z :: L) y.t
    have e1 : lastT f (y :: z :: L) = lastT y.t (z :: L) := by simp [lastT, List.getLast?_cons]
    rw [e1]
    show Uv.put (y.t - f) ++ encE y.k y.n y.d.data.toList ++ encF y.t ((z :: L) ++ [x]) = _
    rw [ih]
    simp [encF]
theorem take_next {α : Type} (L : List α) (q : Nat) (h : q < L.length) : L.take (q + 1) = L.take q ++ [L[q]] := List.take_succ_eq_append_getElem h
theorem encF_next (L : List Ent) (f q : Nat) (h : q < L.length) : encF f (L.take (q + 1)) = encF f (L.take q) ++ (Uv.put (L[q].t - lastT f (L.take q)) ++ encE L[q].k L[q].n L[q].d.data.toList) := by
  rw [take_next L q h, encF_snoc]
theorem lastT_next (L : List Ent) (f q : Nat) (h : q < L.length) : lastT f (L.take (q + 1)) = L[q].t := by
  rw [take_next L q h, lastT_snoc]
theorem ordTo_mono {L : List Ent} {j k : Nat} (h : ordTo L k = true) (hj : j ≤ k) : ordTo L j = true := by
  induction k with
  | zero => obtain rfl : j = 0 := by omega
            rfl
  | succ k ih =>
    unfold ordTo at h
    rw [Bool.and_eq_true] at h
    by_cases e : j = k + 1
    · subst e; unfold ordTo; rw [h.1, h.2]; rfl
    · exact ih h.1 (by omega)
theorem ordTo_no {L : List Ent} {j k : Nat} (h : ordTo L j = false) (hj : j ≤ k) : ordTo L k = false := by
  cases hk : ordTo L k
  · rfl
  · rw [ordTo_mono hk hj] at h; cases h
theorem ordTo_next {L : List Ent} {k : Nat} (h : k + 1 < L.length) : ordTo L (k + 1) = (ordTo L k && !adj L[k] L[k + 1]) := by
  rw [ordTo, List.getElem?_eq_getElem (by omega), List.getElem?_eq_getElem h]
theorem last_le {L : List Ent} {f q : Nat} (ho : ord L = true) (he : early L f = false) (h : q < L.length) : lastT f (L.take q) ≤ L[q].t := by
  cases q with
  | zero =>
    unfold early at he
    rw [List.getElem?_eq_getElem h] at he
    simp [lastT] at he ⊢
    exact he
  | succ q =>
    rw [lastT_next L f q (by omega)]
    have := ordTo_mono ho (j := q + 1) (by omega)
    rw [ordTo_next (by omega), Bool.and_eq_true] at this
    have := this.2
    simp only [adj, Bool.not_eq_true', Bool.or_eq_false_iff, decide_eq_false_iff_not] at this
    omega
theorem ok_bd {k n : Int} {d : List UInt8} (h : Ev.ok k n d = true) : 1 ≤ k ∧ k ≤ 6 ∧ d.length ≤ 128 := by
  unfold Ev.ok Ev.okE at h
  by_cases hd : d = []
  · subst hd
    simp at h
    refine ⟨?_, ?_, by simp⟩ <;> (repeat' split at h) <;> first | omega | (simp at h)
  · simp [hd] at h
    have : d.length ≤ 128 := by (repeat' split at h) <;> first | omega | (simp at h <;> omega)
    refine ⟨?_, ?_, this⟩ <;> (repeat' split at h) <;> first | omega | (simp at h)
theorem encE_len {k n : Int} {d : List UInt8} (hk : 1 ≤ k) (hk6 : k ≤ 6) (hn : 0 ≤ n) (hn2 : n ≤ 4294967295) (hd : d.length ≤ 128) : (encE k n d).length ≤ 158 := by
  have h1 := Uv.put_len k.toNat (by omega)
  have h2 := Uv.put_len n.toNat (by omega)
  have h3 := Uv.put_len d.length (by omega)
  unfold encE
  split
  · rw [List.length_append]; omega
  · split
    · rw [List.length_append, List.length_append, List.length_append]; omega
    · split
      · rw [List.length_append, List.length_append]; omega
      · omega
theorem encF_len {L : List Ent} (hx : ∀ x ∈ L, EntOK x ∧ okX x = true) : ∀ f, (encF f L).length ≤ 168 * L.length := by
  induction L with
  | nil => intro f; simp [encF]
  | cons x L ih =>
    intro f
    have h1 := hx x (by simp)
    have hb := ok_bd h1.2
    have h2 := encE_len hb.1 hb.2.1 h1.1.n1 h1.1.n2 hb.2.2
    have h3 := Uv.put_len (x.t - f) (by have := h1.1.t; omega)
    have h4 := ih (fun y hy => hx y (by simp [hy])) x.t
    unfold encF
    rw [List.length_append, List.length_append, List.length_cons]
    omega
end Go.Proofs.YthpjbffhdaaibaaGreat.Enc

set_option linter.unusedVariables false
namespace Go.Proofs.YthpjbffhdaaibaaGreat
/-- An equation in a box. -/
structure Is {α : Type} (a b : α) : Prop where
  out : a = b
end Go.Proofs.YthpjbffhdaaibaaGreat
namespace Go.Proofs.YthpjbffhdaaibaaGreat.Enc
open Uv Lg
theorem put_inj {x y : Nat} (hx : x < 18446744073709551616) (hy : y < 18446744073709551616) {t u : List UInt8} (h : put x ++ t = put y ++ u) : x = y ∧ t = u := by
  have h1 := numR_put x hx t
  rw [h, numR_put y hy u] at h1
  injection h1 with h1 h2
  injection h2 with h2 _
  exact ⟨h1.symm, h2.symm⟩
theorem data_inj {d d' t u : List UInt8} (hd : d.length < 18446744073709551616) (hd' : d'.length < 18446744073709551616) (h : put d.length ++ (d ++ t) = put d'.length ++ (d' ++ u)) : d = d' ∧ t = u := by
  obtain ⟨h1, h2⟩ := put_inj hd hd' h
  exact List.append_inj h2 h1
/-- The encoding of an event, part by part. -/
theorem encE_1 {k n : Int} {d : List UInt8} (h : k = 1 ∨ k = 3 ∨ k = 6) : encE k n d = put k.toNat ++ put n.toNat := by unfold encE; rw [if_pos h]
theorem encE_4 {k n : Int} {d : List UInt8} (h : k = 4) : encE k n d = put k.toNat ++ (put n.toNat ++ (put d.length ++ d)) := by unfold encE; rw [if_neg (by omega), if_pos h, List.append_assoc]
theorem encE_5 {k n : Int} {d : List UInt8} (h : k = 5) : encE k n d = put k.toNat ++ (put d.length ++ d) := by unfold encE; rw [if_neg (by omega), if_neg (by omega), if_pos h]
theorem encE_2 {k n : Int} {d : List UInt8} (h : k = 2) : encE k n d = put k.toNat := by unfold encE; rw [if_neg (by omega), if_neg (by omega), if_neg (by omega)]
theorem ok_1 {k n : Int} {d : List UInt8} (h : Ev.ok k n d = true) (hk : k = 1 ∨ k = 3 ∨ k = 6) : d = [] := by
  unfold Ev.ok Ev.okE at h
  rcases hk with rfl | rfl | rfl <;> simp at h
  · exact h
  · exact h.2
  · exact h
theorem ok_2 {n : Int} {d : List UInt8} (h : Ev.ok 2 n d = true) : n = 0 ∧ d = [] := by unfold Ev.ok Ev.okE at h; simpa using h
theorem ok_5 {n : Int} {d : List UInt8} (h : Ev.ok 5 n d = true) : n = 0 := by unfold Ev.ok Ev.okE at h; simp at h; exact h.1
theorem encE_inj {k n k' n' : Int} {d d' t u : List UInt8} (hv : Ev.ok k n d = true) (hv' : Ev.ok k' n' d' = true) (hn : 0 ≤ n ∧ n ≤ 4294967295) (hn' : 0 ≤ n' ∧ n' ≤ 4294967295) (h : encE k n d ++ t = encE k' n' d' ++ u) : k = k' ∧ n = n' ∧ d = d' ∧ t = u := by
  obtain ⟨b1, b2, b3⟩ := ok_bd hv
  obtain ⟨c1, c2, c3⟩ := ok_bd hv'
  have hk : k = k' := by
    have e : ∀ (k n : Int) (d : List UInt8), ∃ r, encE k n d = put k.toNat ++ r := by
      intro k n d
      unfold encE
      split
      · exact ⟨_, rfl⟩
      · split
        · exact ⟨_, List.append_assoc _ _ _⟩
        · split
          · exact ⟨_, rfl⟩
          · exact ⟨[], (List.append_nil _).symm⟩
    obtain ⟨r, hr⟩ := e k n d
    obtain ⟨r', hr'⟩ := e k' n' d'
    rw [hr, hr', List.append_assoc, List.append_assoc] at h
    have := (put_inj (by omega) (by omega) h).1
    omega
  subst hk
  rcases (by omega : (k = 1 ∨ k = 3 ∨ k = 6) ∨ k = 2 ∨ k = 4 ∨ k = 5) with hk | hk | hk | hk
  · rw [encE_1 hk, encE_1 hk, List.append_assoc, List.append_assoc] at h
    obtain ⟨_, h⟩ := put_inj (by omega) (by omega) h
    obtain ⟨h1, h2⟩ := put_inj (by omega) (by omega) h
    exact ⟨rfl, by omega, by rw [ok_1 hv hk, ok_1 hv' hk], h2⟩
  · subst hk
    rw [encE_2 rfl, encE_2 rfl] at h
    obtain ⟨_, h⟩ := put_inj (by omega) (by omega) h
    exact ⟨rfl, by rw [(ok_2 hv).1, (ok_2 hv').1], by rw [(ok_2 hv).2, (ok_2 hv').2], h⟩
  · subst hk
    rw [encE_4 rfl, encE_4 rfl] at h
    simp only [List.append_assoc] at h
    obtain ⟨_, h⟩ := put_inj (by omega) (by omega) h
    obtain ⟨h1, h⟩ := put_inj (by omega) (by omega) h
    obtain ⟨h2, h3⟩ := data_inj (by omega) (by omega) h
    exact ⟨rfl, by omega, h2, h3⟩
  · subst hk
    rw [encE_5 rfl, encE_5 rfl] at h
    simp only [List.append_assoc] at h
    obtain ⟨_, h⟩ := put_inj (by omega) (by omega) h
    obtain ⟨h2, h3⟩ := data_inj (by omega) (by omega) h
    exact ⟨rfl, by rw [ok_5 hv, ok_5 hv'], h2, h3⟩
/-- The positions rise. -/
def asc : Nat → List Ent → Prop
  | _, [] => True
  | f, x :: L => f ≤ x.t ∧ asc x.t L
theorem asc_of : ∀ (L : List Ent) (f : Nat), (∀ q (h : q < L.length), lastT f (L.take q) ≤ L[q].t) → asc f L
  | [], _, _ => trivial
  | x :: L, f, h => by
    have h0 : f ≤ x.t := h 0 (by simp)
    refine ⟨h0, asc_of L x.t fun q hq => ?_⟩
    have := h (q + 1) (by simp; omega)
    simp only [List.take_succ_cons, List.getElem_cons_succ] at this
    have e : lastT f (x :: L.take q) = lastT x.t (L.take q) := by
      cases hL : L.take q with
      | nil => simp [lastT]
      | cons y M => simp [lastT, List.getLast?_cons]
    rw [e] at this
    exact this
theorem ent_ext {x y : Ent} (h1 : x.t = y.t) (h2 : x.k = y.k) (h3 : x.n = y.n) (h4 : x.d.data.toList = y.d.data.toList) : x = y := by
  obtain ⟨a, b, c, d⟩ := x
  obtain ⟨a', b', c', d'⟩ := y
  simp only at h1 h2 h3 h4
  subst h1 h2 h3
  congr 1
  cases d; cases d'; simp only at h4; congr 1; exact Array.toList_inj.1 h4
theorem encF_inj : ∀ (L M : List Ent) (f : Nat) (t u : List UInt8), L.length = M.length → (∀ x ∈ L, EntOK x ∧ okX x = true) → (∀ x ∈ M, EntOK x ∧ okX x = true) → asc f L → asc f M → encF f L ++ t = encF f M ++ u → L = M ∧ t = u
  | [], [], _, _, _, _, _, _, _, _, h => ⟨rfl, h⟩
  | [], _ :: _, _, _, _, hl, _, _, _, _, _ => by simp at hl
  | _ :: _, [], _, _, _, hl, _, _, _, _, _ => by simp at hl
  | x :: L, y :: M, f, t, u, hl, hx, hy, ha, hb, h => by
    obtain ⟨x1, x2⟩ := hx x (by simp)
    obtain ⟨y1, y2⟩ := hy y (by simp)
    have hxt := x1.t
    have hyt := y1.t
    simp only [encF, List.append_assoc] at h
    obtain ⟨h1, h⟩ := put_inj (by omega) (by omega) h
    obtain ⟨h2, h3, h4, h⟩ := encE_inj x2 y2 ⟨x1.n1, x1.n2⟩ ⟨y1.n1, y1.n2⟩ h
    have hf1 := ha.1
    have hf2 := hb.1
    have hxy : x = y := ent_ext (by omega) h2 h3 h4
    subst hxy
    obtain ⟨h5, h6⟩ := encF_inj L M x.t t u (by simpa using hl) (fun z hz => hx z (by simp [hz])) (fun z hz => hy z (by simp [hz])) ha.2 hb.2 h
    exact ⟨by rw [h5], h6⟩
/-- What can be encoded. -/
structure Encd (L : List Ent) (f : Nat) (s : List UInt8) : Prop where
  len : L.length ≤ 400
  ok : ∀ x ∈ L, okX x = true
  ord : Enc.ord L = true
  early : Enc.early L f = false
  eq : s = put L.length ++ encF f L
  le : s.length ≤ 65536
theorem encode_ok {L : List Ent} {f : Nat} {s : List UInt8} (h : encode L f = (s, 0)) : Encd L f s := by
  unfold encode at h
  split at h
  · injection h with _ h; cases h
  · rename_i h1
    split at h
    · injection h with _ h; cases h
    · rename_i h2
      split at h
      · injection h with _ h; cases h
      · rename_i h3
        split at h
        · injection h with _ h; cases h
        · rename_i h4
          injection h with h _
          have h2 : L.all okX = true := by cases e : L.all okX <;> simp_all
          rw [List.all_eq_true] at h2
          simp only [Bool.or_eq_true, Bool.not_eq_true', not_or, Bool.not_eq_false, Bool.not_eq_true] at h3
          exact ⟨by omega, h2, h3.1, h3.2, h.symm, by rw [← h]; omega⟩
theorem Encd.asc {L : List Ent} {f : Nat} {s : List UInt8} (h : Encd L f s) : asc f L := asc_of L f fun q hq => last_le h.ord h.early hq
theorem encode_inj {L M : List Ent} {f : Nat} {s : List UInt8} (hx : ∀ x ∈ L, EntOK x) (hy : ∀ x ∈ M, EntOK x) (h1 : encode L f = (s, 0)) (h2 : encode M f = (s, 0)) : L = M := by
  have a := encode_ok h1
  have b := encode_ok h2
  have h := a.eq.symm.trans b.eq
  have hl := a.len
  have hm := b.len
  obtain ⟨h3, h4⟩ := put_inj (by omega) (by omega) h
  exact (encF_inj L M f [] [] h3 (fun x hx' => ⟨hx x hx', a.ok x hx'⟩) (fun x hx' => ⟨hy x hx', b.ok x hx'⟩) a.asc b.asc (by rw [List.append_nil, List.append_nil]; exact h4)).1
/-- What a string of bytes is decoded to. -/
def Dec (s : List UInt8) (f : Nat) (L : List Ent) : Prop := (∀ x ∈ L, EntOK x) ∧ encode L f = (s, 0)
open Classical in
noncomputable def decL (s : List UInt8) (f : Nat) : List Ent × Int := if h : ∃ L, Dec s f L then (Classical.choose h, 0) else ([], 1900)
theorem decL_of {s : List UInt8} {f : Nat} {L : List Ent} (h : Dec s f L) : decL s f = (L, 0) := by
  have he : ∃ L, Dec s f L := ⟨L, h⟩
  unfold decL
  rw [dif_pos he]
  have h2 := Classical.choose_spec he
  rw [encode_inj h2.1 h.1 h2.2 h.2]
theorem decL_no {s : List UInt8} {f : Nat} (h : ∀ L, ¬ Dec s f L) : decL s f = ([], 1900) := by
  unfold decL
  rw [dif_neg (by rintro ⟨L, hL⟩; exact h L hL)]
theorem decL_ok {s : List UInt8} {f : Nat} (h : (decL s f).2 = 0) : Dec s f (decL s f).1 := by
  unfold decL at h ⊢
  split
  · rename_i he
    exact Classical.choose_spec he
  · rename_i he
    rw [dif_neg he] at h
    cases h
theorem decL_or (s : List UInt8) (f : Nat) : (decL s f = ([], 1900) ∧ ∀ L, ¬ Dec s f L) ∨ ∃ L, Dec s f L ∧ decL s f = (L, 0) := by
  by_cases h : ∃ L, Dec s f L
  · obtain ⟨L, h⟩ := h
    exact .inr ⟨L, h, decL_of h⟩
  · exact .inl ⟨decL_no fun L hL => h ⟨L, hL⟩, fun L hL => h ⟨L, hL⟩⟩
/-- How far a reader has come: i of c entries, whatever segment it is. -/
def Fol (s : List UInt8) (f c i : Nat) (L : List Ent) (rest : List UInt8) (at_ : Nat) : Prop :=
  ∀ M, Dec s f M → M.length = c ∧ M.take i = L ∧ rest = encF at_ (M.drop i) ∧ at_ = lastT f L
theorem Fol.start {s rest : List UInt8} {f c : Nat} (h : numR s false = (c, rest, false)) : Fol s f c 0 [] rest f := by
  intro M hM
  have a := encode_ok hM.2
  have hl := a.len
  have h1 := numR_put M.length (by omega) (encF f M)
  rw [← a.eq, h] at h1
  injection h1 with h1 h2
  injection h2 with h2 _
  exact ⟨h1.symm, rfl, h2, rfl⟩
theorem Fol.bad {s rest : List UInt8} {f c : Nat} (h : numR s false = (c, rest, true)) : ∀ M, ¬ Dec s f M := by
  intro M hM
  have a := encode_ok hM.2
  have hl := a.len
  have h1 := numR_put M.length (by omega) (encF f M)
  rw [← a.eq, h] at h1
  injection h1 with _ h2
  injection h2 with _ h2
  cases h2
theorem Fol.many {s rest : List UInt8} {f c : Nat} {b : Bool} (h : numR s false = (c, rest, b)) (hc : 400 < c) : ∀ M, ¬ Dec s f M := by
  intro M hM
  cases b
  · have h1 := (Fol.start (f := f) h M hM).1
    have a := encode_ok hM.2
    have := a.len
    omega
  · exact Fol.bad h M hM
/-- The next entry, as it stands in the bytes. -/
theorem Fol.next {s rest : List UInt8} {f c i at_ : Nat} {L : List Ent} (h : Fol s f c i L rest at_) (hi : i < c) {M : List Ent} (hM : Dec s f M) :
    ∃ x, M[i]? = some x ∧ EntOK x ∧ okX x = true ∧ at_ ≤ x.t ∧ rest = put (x.t - at_) ++ (encE x.k x.n x.d.data.toList ++ encF x.t (M.drop (i + 1))) := by
  obtain ⟨h1, h2, h3, h4⟩ := h M hM
  have a := encode_ok hM.2
  have hiM : i < M.length := by omega
  have hle := last_le a.ord a.early hiM
  rw [h2, ← h4] at hle
  refine ⟨M[i], List.getElem?_eq_getElem hiM, hM.1 _ (List.getElem_mem hiM), a.ok _ (List.getElem_mem hiM), hle, ?_⟩
  rw [h3, List.drop_eq_getElem_cons hiM]
  simp only [encF, List.append_assoc]
theorem Fol.step {s rest rest' : List UInt8} {f c i at_ : Nat} {L : List Ent} {y : Ent} (h : Fol s f c i L rest at_) (hi : i < c) (hy : ∀ x t, EntOK x → okX x = true → at_ ≤ x.t → rest = put (x.t - at_) ++ (encE x.k x.n x.d.data.toList ++ t) → y = x ∧ rest' = t) : Fol s f c (i + 1) (L ++ [y]) rest' y.t := by
  intro M hM
  obtain ⟨x, hx, x1, x2, x3, x4⟩ := h.next hi hM
  obtain ⟨h1, h2, h3, h4⟩ := h M hM
  obtain ⟨rfl, h5⟩ := hy x _ x1 x2 x3 x4
  obtain ⟨hiM, hxe⟩ := List.getElem?_eq_some_iff.1 hx
  refine ⟨h1, by rw [List.take_succ_eq_append_getElem hiM, h2, hxe], h5, by rw [lastT_snoc]⟩
theorem Fol.stop {s rest : List UInt8} {f c i at_ : Nat} {L : List Ent} (h : Fol s f c i L rest at_) (hi : i < c) (hno : ∀ x t, EntOK x → okX x = true → at_ ≤ x.t → rest = put (x.t - at_) ++ (encE x.k x.n x.d.data.toList ++ t) → False) : ∀ M, ¬ Dec s f M := by
  intro M hM
  obtain ⟨x, hx, x1, x2, x3, x4⟩ := h.next hi hM
  exact hno x _ x1 x2 x3 x4
/-- At the end: what has been read is it, or nothing is. -/
theorem Fol.done {s rest : List UInt8} {f c at_ : Nat} {L : List Ent} (h : Fol s f c c L rest at_) (hx : ∀ x ∈ L, EntOK x) : (encode L f = (s, 0) → decL s f = (L, 0)) ∧ (encode L f ≠ (s, 0) → decL s f = ([], 1900)) := by
  refine ⟨fun he => decL_of ⟨hx, he⟩, fun hne => decL_no fun M hM => ?_⟩
  obtain ⟨h1, h2, _, _⟩ := h M hM
  rw [List.take_of_length_le (by omega)] at h2
  subst h2
  exact hne hM.2
theorem Fol.rest {s rest : List UInt8} {f c at_ : Nat} {L : List Ent} (h : Fol s f c c L rest at_) (hr : rest ≠ []) : ∀ M, ¬ Dec s f M := by
  intro M hM
  obtain ⟨h1, _, h3, _⟩ := h M hM
  rw [List.drop_of_length_le (by omega)] at h3
  exact hr h3
end Go.Proofs.YthpjbffhdaaibaaGreat.Enc

set_option linter.unusedVariables false
namespace Go.Proofs.YthpjbffhdaaibaaGreat.Cp
/-- How many bytes two lists have in common at their heads. -/
def lcp : List UInt8 → List UInt8 → Nat
  | a :: s, b :: t => if a = b then lcp s t + 1 else 0
  | _, _ => 0
/-- The length of the match at distance k. -/
def mlen (s : List UInt8) (i k : Nat) : Nat := min 67 (lcp (s.drop i) (s.drop (i - k)))
/-- The best match among the distances up to k. -/
def best (s : List UInt8) (i : Nat) : Nat → Nat × Nat
  | 0 => (0, 0)
  | k + 1 => if (best s i k).2 < mlen s i (k + 1) then (k + 1, mlen s i (k + 1)) else best s i k
def floor4 (p : Nat × Nat) : Nat × Nat := if p.2 < 4 then (0, 0) else p
def mat (s : List UInt8) (i : Nat) : Nat × Nat := floor4 (best s i (min 255 i))
/-- Tokens of a run of literal bytes. -/
def litsF : Nat → List UInt8 → List UInt8
  | 0, _ => []
  | f + 1, [] => []
  | f + 1, l => UInt8.ofNat (min 128 l.length - 1) :: (l.take 128 ++ litsF f (l.drop 128))
def lits (l : List UInt8) : List UInt8 := litsF (l.length + 1) l
/-- The compressed form from position i on, the literals from st on pending. -/
def compF : Nat → List UInt8 → Nat → Nat → List UInt8
  | 0, s, i, st => lits (s.drop st)
  | f + 1, s, i, st =>
    if i < s.length then
      if (mat s i).2 = 0 then compF f s (i + 1) st
      else lits ((s.drop st).take (i - st)) ++ (UInt8.ofNat (124 + (mat s i).2) :: UInt8.ofNat (mat s i).1 :: compF f s (i + (mat s i).2) (i + (mat s i).2))
    else lits (s.drop st)
def comp (s : List UInt8) (i st : Nat) : List UInt8 := compF (s.length - i) s i st
def compress (s : List UInt8) : List UInt8 := comp s 0 0

theorem lcp_le : ∀ a b : List UInt8, lcp a b ≤ a.length
  | [], _ => by simp [lcp]
  | _ :: _, [] => by simp [lcp]
  | a :: s, b :: t => by unfold lcp; split <;> simp; exact lcp_le s t
theorem mlen_le (s : List UInt8) (i k : Nat) : mlen s i k ≤ 67 ∧ mlen s i k ≤ s.length - i := by
  unfold mlen; have := lcp_le (s.drop i) (s.drop (i - k)); rw [List.length_drop] at this; omega
theorem best_spec (s : List UInt8) (i : Nat) : ∀ k, (best s i k).1 ≤ k ∧ (best s i k).2 ≤ 67 ∧ (best s i k).2 ≤ s.length - i ∧ (0 < (best s i k).2 → 1 ≤ (best s i k).1 ∧ mlen s i (best s i k).1 = (best s i k).2)
  | 0 => by simp [best]
  | k + 1 => by
    have h := best_spec s i k
    have hm := mlen_le s i (k + 1)
    unfold best; split
    · exact ⟨Nat.le_refl _, hm.1, hm.2, fun _ => ⟨by simp, rfl⟩⟩
    · exact ⟨by omega, h.2.1, h.2.2.1, h.2.2.2⟩
theorem best_max (s : List UInt8) (i : Nat) : ∀ k j, 1 ≤ j → j ≤ k → mlen s i j ≤ (best s i k).2
  | 0, j, h1, h2 => by omega
  | k + 1, j, h1, h2 => by
    unfold best; split
    · rename_i h
      by_cases e : j = k + 1
      · subst e; exact Nat.le_refl _
      · have := best_max s i k j h1 (by omega); show _ ≤ mlen s i (k + 1); omega
    · rename_i h
      by_cases e : j = k + 1
      · subst e; omega
      · exact best_max s i k j h1 (by omega)
theorem mat_spec (s : List UInt8) (i : Nat) : mat s i = (0, 0) ∨ (4 ≤ (mat s i).2 ∧ (mat s i).2 ≤ 67 ∧ (mat s i).2 ≤ s.length - i ∧ 1 ≤ (mat s i).1 ∧ (mat s i).1 ≤ 255 ∧ (mat s i).1 ≤ i ∧ mlen s i (mat s i).1 = (mat s i).2) := by
  have h := best_spec s i (min 255 i)
  unfold mat floor4
  split
  · exact .inl rfl
  · rename_i h4
    have := h.2.2.2 (by omega)
    exact .inr ⟨by omega, h.2.1, h.2.2.1, this.1, by omega, by omega, this.2⟩
theorem mat_zero {s : List UInt8} {i : Nat} (h : (mat s i).2 = 0) : mat s i = (0, 0) := by
  rcases mat_spec s i with h1 | h1
  · exact h1
  · omega
theorem mat_pos {s : List UInt8} {i : Nat} (h : ¬ (mat s i).2 = 0) : 4 ≤ (mat s i).2 ∧ (mat s i).2 ≤ 67 ∧ (mat s i).2 ≤ s.length - i ∧ 1 ≤ (mat s i).1 ∧ (mat s i).1 ≤ 255 ∧ (mat s i).1 ≤ i ∧ mlen s i (mat s i).1 = (mat s i).2 := by
  rcases mat_spec s i with h1 | h1
  · rw [h1] at h; exact absurd rfl h
  · exact h1
/-- Fuel beyond need changes nothing. -/
theorem litsF_fuel : ∀ (f g : Nat) (l : List UInt8), l.length < f → l.length < g → litsF f l = litsF g l
  | 0, _, _, h, _ => by omega
  | _ + 1, 0, _, _, h => by omega
  | f + 1, g + 1, [], _, _ => rfl
  | f + 1, g + 1, c :: l, h1, h2 => by
    show UInt8.ofNat _ :: (_ ++ litsF f _) = UInt8.ofNat _ :: (_ ++ litsF g _)
    rw [litsF_fuel f g ((c :: l).drop 128) (by simp at h1 ⊢; omega) (by simp at h2 ⊢; omega)]
theorem lits_nil : lits [] = [] := rfl
theorem lits_step {l : List UInt8} (h : 0 < l.length) : lits l = UInt8.ofNat (min 128 l.length - 1) :: (l.take (min 128 l.length) ++ lits (l.drop (min 128 l.length))) := by
  have e1 : l.take (min 128 l.length) = l.take 128 := by
    by_cases hl : l.length ≤ 128
    · rw [Nat.min_eq_right hl, List.take_length, List.take_of_length_le hl]
    · rw [Nat.min_eq_left (by omega)]
  have e2 : l.drop (min 128 l.length) = l.drop 128 := by
    by_cases hl : l.length ≤ 128
    · rw [Nat.min_eq_right hl, List.drop_length, List.drop_of_length_le hl]
    · rw [Nat.min_eq_left (by omega)]
  rw [e1, e2]
  match l, h with
  | c :: l, _ =>
    unfold lits
    show UInt8.ofNat _ :: (_ ++ litsF _ _) = _
    rw [litsF_fuel _ _ ((c :: l).drop 128) (by simp; omega) (Nat.lt_succ_self _)]
theorem compF_fuel : ∀ (f g : Nat) (s : List UInt8) (i st : Nat), s.length - i ≤ f → s.length - i ≤ g → compF f s i st = compF g s i st
  | 0, 0, _, _, _, _, _ => rfl
  | 0, g + 1, s, i, st, h, _ => by unfold compF; rw [if_neg (by omega)]
  | f + 1, 0, s, i, st, _, h => by unfold compF; rw [if_neg (by omega)]
  | f + 1, g + 1, s, i, st, h1, h2 => by
    unfold compF
    split
    · split
      · exact compF_fuel f g s (i + 1) st (by omega) (by omega)
      · rename_i hm
        have := mat_pos hm
        rw [compF_fuel f g s (i + (mat s i).2) _ (by omega) (by omega)]
    · rfl
theorem comp_end {s : List UInt8} {i st : Nat} (h : s.length ≤ i) : comp s i st = lits (s.drop st) := by
  unfold comp; rw [show s.length - i = 0 by omega]; rfl
theorem comp_skip {s : List UInt8} {i st : Nat} (h : i < s.length) (hm : (mat s i).2 = 0) : comp s i st = comp s (i + 1) st := by
  unfold comp
  rw [show s.length - i = (s.length - (i + 1)) + 1 by omega, compF, if_pos h, if_pos hm]
theorem comp_match {s : List UInt8} {i st : Nat} (h : i < s.length) (hm : ¬ (mat s i).2 = 0) :
    comp s i st = lits ((s.drop st).take (i - st)) ++ (UInt8.ofNat (124 + (mat s i).2) :: UInt8.ofNat (mat s i).1 :: comp s (i + (mat s i).2) (i + (mat s i).2)) := by
  have h4 := mat_pos hm
  unfold comp
  rw [compF_fuel (s.length - i) ((s.length - (i + 1)) + 1) s i st (by omega) (by omega), compF, if_pos h, if_neg hm]
  rw [compF_fuel (s.length - (i + 1)) (s.length - (i + (mat s i).2)) s _ _ (by omega) (by omega)]

/-! ### the way by a list of earlier positions -/
/-- The group of four bytes at a position. -/
def grp (s : List UInt8) (i : Nat) : Option (List UInt8) := if i + 4 ≤ s.length then some ((s.drop i).take 4) else none
/-- The positions from lo on, n of them, at which the group g begins. -/
def occ (s : List UInt8) (g : List UInt8) (lo n : Nat) : List Nat := (List.range' lo n).filter fun j => grp s j == some g
/-- What the window holds at position i. -/
def pos (s : List UInt8) (g : List UInt8) (i : Nat) : List Nat := occ s g (i - 255) (i - (i - 255))
def step (s : List UInt8) (i j : Nat) (p : Nat × Nat) : Nat × Nat := if p.2 < mlen s i (i - j) then (i - j, mlen s i (i - j)) else p
/-- The best of the positions of a list, the last ones first. -/
def among (s : List UInt8) (i : Nat) (l : List Nat) : Nat × Nat := l.foldr (step s i) (0, 0)
theorem lcp_ge : ∀ (n : Nat) (a b : List UInt8), n ≤ a.length → n ≤ b.length → (n ≤ lcp a b ↔ a.take n = b.take n)
  | 0, a, b, _, _ => by simp
  | n + 1, [], b, h, _ => by simp at h
  | n + 1, _ :: _, [], _, h => by simp at h
  | n + 1, a :: s, b :: t, h1, h2 => by
    have ih := lcp_ge n s t (by simpa using h1) (by simpa using h2)
    unfold lcp
    split
    · rename_i e
      subst e
      simp only [List.take_succ_cons, List.cons.injEq, true_and]
      rw [← ih]; omega
    · rename_i e
      simp only [List.take_succ_cons, List.cons.injEq]
      constructor
      · intro h; omega
      · intro h; exact absurd h.1 e
theorem grp_iff {s : List UInt8} {i j : Nat} (hi : i + 4 ≤ s.length) (hj : j ≤ i) : grp s j = grp s i ↔ 4 ≤ lcp (s.drop i) (s.drop j) := by
  unfold grp
  rw [if_pos hi, if_pos (by omega), Option.some.injEq, lcp_ge 4 _ _ (by rw [List.length_drop]; omega) (by rw [List.length_drop]; omega)]
  exact ⟨fun h => h.symm, fun h => h.symm⟩
theorem range'_cons (lo n : Nat) (h : 0 < lo) : List.range' (lo - 1) (n + 1) = (lo - 1) :: List.range' lo n := by
  rw [List.range'_succ]; congr 2; omega
theorem step4 (b : Nat × Nat) (m K : Nat) (h : 4 ≤ m) : (if (floor4 b).2 < m then (K, m) else floor4 b) = floor4 (if b.2 < m then (K, m) else b) := by
  unfold floor4
  by_cases hs : b.2 < 4
  · rw [if_pos hs, if_pos (show b.2 < m by omega), if_pos (show 0 < m by omega), if_neg (show ¬ m < 4 by omega)]
  · rw [if_neg hs]
    by_cases hl : b.2 < m
    · rw [if_pos hl, if_neg (show ¬ m < 4 by omega)]
    · rw [if_neg hl, if_neg hs]
theorem step4n (b : Nat × Nat) (m K : Nat) (h : ¬ 4 ≤ m) : floor4 b = floor4 (if b.2 < m then (K, m) else b) := by
  unfold floor4
  by_cases hl : b.2 < m
  · rw [if_pos hl, if_pos (show b.2 < 4 by omega), if_pos (show m < 4 by omega)]
  · rw [if_neg hl]
theorem fold_best (s : List UInt8) (i : Nat) (hi : i + 4 ≤ s.length) (g : List UInt8) (hg : grp s i = some g) : ∀ k, k ≤ i → (occ s g (i - k) k).foldr (step s i) (0, 0) = floor4 (best s i k)
  | 0, _ => rfl
  | k + 1, hk => by
    have ih := fold_best s i hi g hg k (by omega)
    have hb := best_spec s i k
    have e : occ s g (i - (k + 1)) (k + 1) = if 4 ≤ mlen s i (k + 1) then (i - (k + 1)) :: occ s g (i - k) k else occ s g (i - k) k := by
      unfold occ
      rw [show i - (k + 1) = (i - k) - 1 by omega, range'_cons _ _ (by omega), List.filter_cons]
      have h1 := grp_iff (s := s) (i := i) (j := i - k - 1) hi (by omega)
      have h2 : 4 ≤ mlen s i (k + 1) ↔ grp s (i - k - 1) = some g := by
        rw [← hg, h1]
        unfold mlen
        rw [show i - (k + 1) = i - k - 1 by omega]; omega
      by_cases h : grp s (i - k - 1) = some g
      · rw [if_pos (by simpa using h), if_pos (h2.2 h)]
      · rw [if_neg (by simpa using h), if_neg (fun h' => h (h2.1 h'))]
    rw [e]
    unfold best
    by_cases h4 : 4 ≤ mlen s i (k + 1)
    · rw [if_pos h4, List.foldr_cons, ih]
      have ek : i - (i - (k + 1)) = k + 1 := by omega
      unfold step
      rw [ek]
      exact step4 _ _ _ h4
    · rw [if_neg h4, ih]
      exact step4n _ _ _ h4
theorem among_pos {s : List UInt8} {i : Nat} {g : List UInt8} (hg : grp s i = some g) : among s i (pos s g i) = mat s i := by
  have hi : i + 4 ≤ s.length := by
    unfold grp at hg; split at hg
    · assumption
    · cases hg
  have h := fold_best s i hi g hg (min 255 i) (by omega)
  have e1 : i - 255 = i - min 255 i := by omega
  have e2 : i - (i - min 255 i) = min 255 i := by omega
  unfold among pos mat
  rw [e1, e2]
  exact h
theorem mat_none {s : List UInt8} {i : Nat} (hg : grp s i = none) : mat s i = (0, 0) := by
  have hi : s.length - i < 4 := by
    unfold grp at hg; split at hg
    · cases hg
    · omega
  rcases mat_spec s i with h | h
  · exact h
  · omega
/-- Once the limit is reached nothing better comes. -/
theorem among_full {s : List UInt8} {i : Nat} (p : Nat × Nat) (hp : min 67 (s.length - i) ≤ p.2) : ∀ l : List Nat, l.foldr (step s i) p = p
  | [] => rfl
  | j :: l => by
    rw [List.foldr_cons, among_full p hp l]
    unfold step
    have := mlen_le s i (i - j)
    rw [if_neg (by omega)]
theorem among_append (s : List UInt8) (i : Nat) (a b : List Nat) : among s i (a ++ b) = a.foldr (step s i) (among s i b) := by
  unfold among; rw [List.foldr_append]
end Go.Proofs.YthpjbffhdaaibaaGreat.Cp
