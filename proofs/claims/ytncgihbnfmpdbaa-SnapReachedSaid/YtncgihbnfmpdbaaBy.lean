/-
  Bytes of the call's own: append of bytes and of strings, the way to a string and back.
-/
import Derived.Test.YtncgihbnfmpdbaaProg
import Derived.WalkKit
import Derived.Lib.Hide
import Derived.Lib.AppendStr
import Derived.Maps.AppendAt
import Derived.WalkSpells
import Derived.WalkLawsBesides
set_option linter.unusedVariables false
set_option maxRecDepth 100000
namespace Go.Proofs.Ytncgihbnfmpdbaa
open Go.RowKit
namespace By
theorem take_snoc (s : ByteArray) (k : Nat) (h : k < s.size) : s.data.toList.take (k + 1) = s.data.toList.take k ++ [s[k]] := by
  rw [List.take_succ_eq_append_getElem (by simpa using h)]; rfl
theorem take_all (s : ByteArray) : s.data.toList.take s.size = s.data.toList := List.take_of_length_le (by simp)
theorem str_eq {a b : List UInt8} (h : a = b) : Ending.returned (.string ⟨a.toArray⟩) = .returned (.string ⟨b.toArray⟩) := by rw [h]
theorem Tryby_u8 : (Try.prog.info? 5).map (fun i => (i.zero, i.size, i.bytes)) = some (some (.int .u8 0), 1, 1) := by kernel_rfl
/-- Bytes as the cells of a slice. -/
def by8 (l : List UInt8) : List Value := l.map fun c => Value.int .u8 c.toNat
theorem by8_append (a b : List UInt8) : by8 (a ++ b) = by8 a ++ by8 b := List.map_append
theorem by8_one (l : List UInt8) : ∀ u ∈ by8 l, u.oneCell' = true := by
  intro u hu; obtain ⟨c, _, rfl⟩ := List.mem_map.1 hu; rfl
theorem by8_at {l : List UInt8} {j : Nat} {u : Value} (h : (by8 l)[j]? = some u) : ∃ h : j < l.length, u = .int .u8 l[j].toNat := by
  unfold by8 at h
  rw [List.getElem?_map] at h
  cases e : l[j]? with
  | none => simp [e] at h
  | some c =>
    obtain ⟨hj, rfl⟩ := List.getElem?_eq_some_iff.1 e
    simp [e] at h
    exact ⟨hj, h.symm⟩
/-- Append to bytes that the call itself made. -/
theorem app_u8 (w : World) {ops : Array Oper} {rest : List Oper} {o : Oper} {a : Act} {Q : Exit → Act → World → Prop} (hgd : o.guard = none) (s x : Operand)
    (ho : o.op = .call { callee := .builtin .append, args := #[s, x], argTypes := #[44, 44] }) (base : Nat) (v : Value) (l news : List UInt8) (ad : Addr) (m c : Nat)
    (hs : a.eval s = v) (hown : w.ownsRow base 5 1 v l.length (by8 l)) (hx : a.eval x = .slice (some ad) m c) (hm : news.length = m)
    (hnews : ∀ j (h : j < news.length), w.cell? (ad.add j) = some (.int .u8 news[j].toNat)) (hb : l.length + m ≤ 140737488355328) (hbase : base ≤ w.heap.size)
    (h : ∀ v' w', w'.ownsRow base 5 1 v' (l ++ news).length (by8 (l ++ news)) → w.grownBy w' v.ownBlock → (v' = .slice none 0 0 ↔ v = .slice none 0 0 ∧ m = 0) → wpList Try.prog ops Q rest (a.put o.dst v') w') :
    wpList Try.prog ops Q (o :: rest) a w := by
  obtain ⟨i0, hi, hz0, hz1, hz2⟩ := info_parts Tryby_u8
  refine wpList_append_own w hgd s x 44 ho base 5 i0 (.int .u8 0) 1 1 Try.underlying44 hi hz0 hz1 hz2 rfl (by decide) v l.length (by8 l) hs hown ad m c (by8 news) hx (by simp [by8, hm]) ?_ (by8_one news) (by unfold maxLen; omega) (by omega) hbase ?_
  · intro j u hj
    obtain ⟨hk, rfl⟩ := by8_at hj
    exact hnews j hk
  · intro v' w' h1 h2 h3
    refine h v' w' ?_ h2 h3
    rw [by8_append, List.length_append, hm]; exact h1
/-- A row of one byte that was just made. -/
theorem one_cell (w : World) (n : Int) (c : UInt8) (h : n = (c.toNat : Int)) (t : TypeId) : ∀ j (h : j < [c].length), (w.alloc (.cells #[.int .u8 n] t)).cell? ((⟨w.heap.size, 0, none⟩ : Addr).add j) = some (.int .u8 [c][j].toNat) := by
  intro j hj
  simp at hj
  subst hj h
  simp [Addr.add]

theorem by8_get (l : List UInt8) (j : Nat) (hj : j < l.length) : (by8 l)[j]? = some (.int .u8 l[j].toNat) := by
  unfold by8; rw [List.getElem?_map, List.getElem?_eq_getElem hj]; rfl
theorem addr_add (g j : Nat) : (⟨g, 0, none⟩ : Addr).add j = ⟨g, j, none⟩ := by
  unfold Addr.add; split
  · rename_i h; subst h; rfl
  · simp
/-- Bytes that the call owns, as a string. -/
theorem conv_own {w : World} {base : Nat} {v : Value} {l : List UInt8} (h : w.ownsRow base 5 1 v l.length (by8 l)) :
    (convert 44 9 v).run Try.prog w = .ok (.string ⟨l.toArray⟩) w := by
  have h' := h
  obtain ⟨_, h⟩ := h
  rcases h with ⟨rfl, h0⟩ | ⟨g, cap, cur, rfl, _⟩
  · have hl : l = [] := List.eq_nil_of_length_eq_zero h0
    subst hl
    have := run_convert_bytes_back (P := Try.prog) w 44 9 5 default 0 [] Try.underlying44 Try.underlying5 Try.underlying9 (fun j hj => absurd hj (by simp))
    rw [run_convert_bytes_string w _ _ _ none 0 0 Try.underlying44 Try.underlying5 Try.underlying9]
    rfl
  · exact run_convert_bytes_back (P := Try.prog) w 44 9 5 _ cap l Try.underlying44 Try.underlying5 Try.underlying9 (fun j hj => by
      have := h'.cellAt j (by omega)
      rw [by8_get l j hj] at this
      rw [addr_add]; exact this)
theorem below_app {W w w1 : World} {b : Nat} {v : Value} {e : TypeId} {size n : Nat} {xs : List Value} {o : Obj} (hb : Below b W w) (hbs : b ≤ w.heap.size) (hown : w.ownsRow b e size v n xs) (hg : (w.alloc o).grownBy w1 v.ownBlock) : Below b W w1 := by
  refine (hb.alloc hbs o).grown hg (by simp; omega) ?_
  intro k hk
  obtain ⟨_, h⟩ := hown
  rcases h with ⟨rfl, _⟩ | ⟨g, cap, cur, rfl, hg', _⟩
  · simp [Value.ownBlock] at hk
  · simp [Value.ownBlock] at hk; omega

/-- '[]byte(s)': a new block. -/
theorem bytes_of (s : ByteArray) (w : World) : ∃ (C : Array Value) (cap : Nat), s.size ≤ C.size ∧ (∀ i (h : i < s.size), C[i]? = some (.int .u8 s[i].toNat)) ∧
    (convert 9 44 (.string s)).run Try.prog w = .ok (.slice (some ⟨w.heap.size, 0, none⟩) s.size cap) (w.drew.alloc (.cells C 5 (C.size, C.size + 1))) := by
  refine ⟨bytesRow s (grownCap w s.size 0 5), grownCap w s.size 0 5, ?_, fun i h => bytesRow_at s _ i h, run_bytes_of_string (P := Try.prog) w 9 44 5 s Try.underlying9 Try.underlying44 Try.underlying5⟩
  rcases Nat.lt_or_ge (bytesRow s (grownCap w s.size 0 5)).size s.size with h | h
  · have := bytesRow_at s (grownCap w s.size 0 5) _ h
    simp at this
  · exact h
theorem bytes_back (w : World) (a : Addr) (cap : Nat) (l : List UInt8) (hc : ∀ j (hj : j < l.length), w.cell? (a.add j) = some (.int .u8 (l[j].toNat : Int))) :
    (convert 44 9 (.slice (some a) l.length cap)).run Try.prog w = .ok (.string ⟨l.toArray⟩) w :=
  run_convert_bytes_back w _ _ 5 a cap l Try.underlying44 Try.underlying5 Try.underlying9 hc
theorem drop_at (s : ByteArray) (k : Nat) (h : k < s.size) : s.data.toList.drop k = s[k] :: s.data.toList.drop (k + 1) := by
  rw [List.drop_eq_getElem_cons (by simpa using h)]; rfl
theorem strCells_by (s : ByteArray) : Lib.strCells s = by8 s.data.toList := by
  unfold Lib.strCells by8
  rfl
/-- Append of a string to bytes that the call itself made. -/
theorem app_str (w : World) {ops : Array Oper} {rest : List Oper} {o : Oper} {a : Act} {Q : Exit → Act → World → Prop} (hgd : o.guard = none) (s x : Operand)
    (ho : o.op = .call { callee := .builtin .append, args := #[s, x], argTypes := #[44, 9] }) (base : Nat) (v : Value) (l : List UInt8) (t : ByteArray)
    (hs : a.eval s = v) (hown : w.ownsRow base 5 1 v l.length (by8 l)) (hx : a.eval x = .string t) (hb : l.length + t.size ≤ 140737488355328) (hbase : base ≤ w.heap.size)
    (h : ∀ v' w', w'.ownsRow base 5 1 v' (l ++ t.data.toList).length (by8 (l ++ t.data.toList)) → w.grownBy w' v.ownBlock → wpList Try.prog ops Q rest (a.put o.dst v') w') :
    wpList Try.prog ops Q (o :: rest) a w := by
  obtain ⟨i0, hi, hz0, hz1, hz2⟩ := info_parts Tryby_u8
  refine Lib.wpList_append_own_string w hgd s x 44 9 ho base 5 i0 Try.underlying44 Try.underlying9 hi hz0 hz1 hz2 v l.length (by8 l) hs hown t hx (by unfold maxLen; omega) hb hbase ?_
  intro v' w' h1 h2 _
  refine h v' w' ?_ h2
  rw [by8_append, List.length_append, ← strCells_by]
  simpa using h1
/-- The new value lies in the old one's block or in a new one. -/
def Moved (w : World) (v v' : Value) : Prop := ∀ g, v'.ownBlock = some g → v.ownBlock = some g ∨ w.heap.size ≤ g
theorem Moved.refl (w : World) (v : Value) : Moved w v v := fun g h => .inl h
theorem Moved.trans {w w1 : World} {a b c : Value} (h : Moved w a b) (k : Moved w1 b c) (hs : w.heap.size ≤ w1.heap.size) : Moved w a c := fun g hg => by
  rcases k g hg with h1 | h1
  · exact h g h1
  · exact .inr (Nat.le_trans hs h1)
theorem Moved.mono {w w1 : World} {a b : Value} (h : Moved w1 a b) (hs : w.heap.size ≤ w1.heap.size) : Moved w a b := fun g hg => (h g hg).imp id (Nat.le_trans hs)
theorem run_str {P : Program} (w : World) (base : Nat) (t u ty e : TypeId) (i : TypeInfo) (ht : P.underlying t = some (.slice e)) (hu : P.underlying u = some .string) (hi : P.info? e = some i) (hz : i.zero = some (.int .u8 0))
    (hsize : i.size = 1) (hby : i.bytes = 1) (v : Value) (n : Nat) (xs : List Value) (hown : w.ownsRow base e 1 v n xs) (s : ByteArray)
    (h63 : n + s.size ≤ maxLen) (hbytes : n + s.size ≤ 140737488355328) (hbase : base ≤ w.heap.size) :
    ∃ v' w', (Builtin.append_ #[t, u] ty #[v, .string s]).run P w = .ok v' w' ∧ w'.ownsRow base e 1 v' (n + s.size) (xs ++ Lib.strCells s) ∧ w.grownBy w' v.ownBlock ∧ Moved w v v' := by
  have hsm : ((n + s.size : Nat) : Int) ≤ 9223372036854775807 := by unfold maxLen at h63; omega
  rcases hown.2 with ⟨rfl, rfl⟩ | ⟨g, cap, cur, rfl, hbg, hg, hnc, hcm, hcs, htake⟩
  · obtain ⟨v', w', hr, h2, h3, _⟩ := Lib.run_append_own_string (P := P) w w.heap.size t u ty e i ht hu hi hz hsize hby (.slice none 0 0) 0 xs ⟨hown.1, .inl ⟨rfl, rfl⟩⟩ s h63 hbytes (Nat.le_refl _)
    refine ⟨v', w', hr, ⟨h2.1, h2.2.imp id fun ⟨g, cap, cur, a1, a2, a3⟩ => ⟨g, cap, cur, a1, Nat.le_trans hbase a2, a3⟩⟩, h3, fun g hg => .inr ?_⟩
    rcases h2.2 with ⟨rfl, _⟩ | ⟨g', cap, cur, rfl, h4, _⟩
    · cases hg
    · injection hg with hg
      subst hg; exact h4
  · obtain ⟨v', w', hr, h2, h3, _⟩ := Lib.run_append_own_string (P := P) w base t u ty e i ht hu hi hz hsize hby _ n xs hown s h63 hbytes hbase
    refine ⟨v', w', hr, h2, h3, ?_⟩
    by_cases hroom : n + s.size ≤ cap
    · have h5 := Lib.run_append_room_string (P := P) w t u ty e i ht hu hi hsize g n cap cur hg s hroom (by omega)
      rw [hr] at h5
      injection h5 with h5
      subst h5
      exact fun g hg => .inl hg
    · have h5 := Lib.run_append_grow_string (P := P) w t u ty e i (.int .u8 0) ht hu hi hz ⟨g, 0, none⟩ n cap xs (by rw [hsize]; exact hown.1) (hown.cells (g := g) rfl) s (by omega) hsm (by rw [hby]; exact growslice_fits (by omega) (by omega))
      rw [hr] at h5
      injection h5 with h5
      subst h5
      intro g hg
      injection hg with hg
      subst hg; exact .inr (Nat.le_refl _)
/-- Append of a string, .. and where the result lies. -/
theorem app_strM (w : World) {ops : Array Oper} {rest : List Oper} {o : Oper} {a : Act} {Q : Exit → Act → World → Prop} (hgd : o.guard = none) (s x : Operand)
    (ho : o.op = .call { callee := .builtin .append, args := #[s, x], argTypes := #[44, 9] }) (base : Nat) (v : Value) (l : List UInt8) (t : ByteArray)
    (hs : a.eval s = v) (hown : w.ownsRow base 5 1 v l.length (by8 l)) (hx : a.eval x = .string t) (hb : l.length + t.size ≤ 140737488355328) (hbase : base ≤ w.heap.size)
    (h : ∀ v' w', w'.ownsRow base 5 1 v' (l ++ t.data.toList).length (by8 (l ++ t.data.toList)) → w.grownBy w' v.ownBlock → Moved w v v' → wpList Try.prog ops Q rest (a.put o.dst v') w') :
    wpList Try.prog ops Q (o :: rest) a w := by
  obtain ⟨i0, hi, hz0, hz1, hz2⟩ := info_parts Tryby_u8
  refine wpList_plain hgd fun K hK => ?_
  obtain ⟨v', w', hr, h2, h3, h4⟩ := run_str (P := Try.prog) w base 44 9 o.type 5 i0 Try.underlying44 Try.underlying9 hi hz0 hz1 hz2 v l.length (by8 l) hown t (by unfold maxLen; omega) hb hbase
  unfold Oper.wp execOp
  simp only [ho, resolve, invoke, builtin, Sem.run_bind, Sem.run_pure, Result.andThen_ok, List.map_toArray, List.map_cons, List.map_nil, hs, hx, hr]
  refine hK _ _ (h v' w' ?_ h3 h4)
  rw [by8_append, List.length_append, ← strCells_by]
  simpa using h2
/-- Append of bytes, .. and where the result lies. -/
theorem app_u8M (w : World) {ops : Array Oper} {rest : List Oper} {o : Oper} {a : Act} {Q : Exit → Act → World → Prop} (hgd : o.guard = none) (s x : Operand)
    (ho : o.op = .call { callee := .builtin .append, args := #[s, x], argTypes := #[44, 44] }) (base : Nat) (v : Value) (l news : List UInt8) (ad : Addr) (m c : Nat)
    (hs : a.eval s = v) (hown : w.ownsRow base 5 1 v l.length (by8 l)) (hx : a.eval x = .slice (some ad) m c) (hm : news.length = m)
    (hnews : ∀ j (h : j < news.length), w.cell? (ad.add j) = some (.int .u8 news[j].toNat)) (hb : l.length + m ≤ 140737488355328) (hbase : base ≤ w.heap.size)
    (h : ∀ v' w', w'.ownsRow base 5 1 v' (l ++ news).length (by8 (l ++ news)) → w.grownBy w' v.ownBlock → Moved w v v' → wpList Try.prog ops Q rest (a.put o.dst v') w') :
    wpList Try.prog ops Q (o :: rest) a w := by
  obtain ⟨i0, hi, hz0, hz1, hz2⟩ := info_parts Tryby_u8
  refine wpList_append_own_at w hgd s x 44 ho base 5 i0 (.int .u8 0) 1 1 Try.underlying44 hi hz0 hz1 hz2 rfl (by decide) v l.length (by8 l) hs hown ad m c (by8 news) hx (by simp [by8, hm]) ?_ (by8_one news) (by unfold maxLen; omega) (by omega) hbase ?_
  · intro j u hj
    obtain ⟨hk, rfl⟩ := by8_at hj
    exact hnews j hk
  · intro v' w' h1 h2 h3 h4
    refine h v' w' ?_ h2 (fun g hg => ?_)
    · rw [by8_append, List.length_append, hm]; exact h1
    · rcases h4 with h4 | h4
      · exact .inl (h4 ▸ hg)
      · rw [h4] at hg; injection hg with hg; exact .inr (by omega)
/-- At a step of a region that draws its order: append of bytes. -/
theorem app_u8S (w : World) {ops : Array Oper} {o : Oper} {a : Act} {K : Act → World → Prop} {Q : Exit → Act → World → Prop} {E : Prop} (hgd : o.guard = none) (s x : Operand)
    (ho : o.op = .call { callee := .builtin .append, args := #[s, x], argTypes := #[44, 44] }) (base : Nat) (v : Value) (l news : List UInt8) (ad : Addr) (m c : Nat)
    (hs : a.eval s = v) (hown : w.ownsRow base 5 1 v l.length (by8 l)) (hx : a.eval x = .slice (some ad) m c) (hm : news.length = m)
    (hnews : ∀ j (h : j < news.length), w.cell? (ad.add j) = some (.int .u8 news[j].toNat)) (hb : l.length + m ≤ 140737488355328) (hbase : base ≤ w.heap.size)
    (h : ∀ v' w', w'.ownsRow base 5 1 v' (l ++ news).length (by8 (l ++ news)) → w.grownBy w' v.ownBlock → Moved w v v' → K (a.put o.dst v') w') :
    if Region.wanted o (yielded ops a.tmps) = true then Oper.wp Try.prog o a w K Q else E := by
  obtain ⟨i0, hi, hz0, hz1, hz2⟩ := info_parts Tryby_u8
  have hw : Region.wanted o (yielded ops a.tmps) = true := by simp [Region.wanted, hgd]
  rw [if_pos hw]
  obtain ⟨v', w', hr, h1, h2, h3, h4⟩ := run_append_own_at (P := Try.prog) w base 44 o.type 5 i0 (.int .u8 0) 1 1 Try.underlying44 hi hz0 hz1 hz2 rfl (by decide) v l.length (by8 l) hown ad m c (by8 news) (by simp [by8, hm])
    (fun j u hj => by obtain ⟨hk, rfl⟩ := by8_at hj; exact hnews j hk) (by8_one news) (by unfold maxLen; omega) (by omega) hbase
  unfold Oper.wp execOp
  simp only [ho, resolve, invoke, builtin, Sem.run_bind, Sem.run_pure, Result.andThen_ok, List.map_toArray, List.map_cons, List.map_nil, hs, hx, hr]
  refine h v' w' ?_ h2 (fun g hg => ?_)
  · rw [by8_append, List.length_append, hm]; exact h1
  · rcases h4 with h4 | h4
    · exact .inl (h4 ▸ hg)
    · rw [h4] at hg; injection hg with hg; exact .inr (by omega)
/-- At a step of a region that draws its order: append of a string. -/
theorem app_strS (w : World) {ops : Array Oper} {o : Oper} {a : Act} {K : Act → World → Prop} {Q : Exit → Act → World → Prop} {E : Prop} (hgd : o.guard = none) (s x : Operand)
    (ho : o.op = .call { callee := .builtin .append, args := #[s, x], argTypes := #[44, 9] }) (base : Nat) (v : Value) (l : List UInt8) (t : ByteArray)
    (hs : a.eval s = v) (hown : w.ownsRow base 5 1 v l.length (by8 l)) (hx : a.eval x = .string t) (hb : l.length + t.size ≤ 140737488355328) (hbase : base ≤ w.heap.size)
    (h : ∀ v' w', w'.ownsRow base 5 1 v' (l ++ t.data.toList).length (by8 (l ++ t.data.toList)) → w.grownBy w' v.ownBlock → Moved w v v' → K (a.put o.dst v') w') :
    if Region.wanted o (yielded ops a.tmps) = true then Oper.wp Try.prog o a w K Q else E := by
  obtain ⟨i0, hi, hz0, hz1, hz2⟩ := info_parts Tryby_u8
  have hw : Region.wanted o (yielded ops a.tmps) = true := by simp [Region.wanted, hgd]
  rw [if_pos hw]
  obtain ⟨v', w', hr, h2, h3, h4⟩ := run_str (P := Try.prog) w base 44 9 o.type 5 i0 Try.underlying44 Try.underlying9 hi hz0 hz1 hz2 v l.length (by8 l) hown t (by unfold maxLen; omega) hb hbase
  unfold Oper.wp execOp
  simp only [ho, resolve, invoke, builtin, Sem.run_bind, Sem.run_pure, Result.andThen_ok, List.map_toArray, List.map_cons, List.map_nil, hs, hx, hr]
  refine h v' w' ?_ h3 h4
  rw [by8_append, List.length_append, ← strCells_by]
  simpa using h2
/-- At a step of a region that draws its order: an append of which the run is known. -/
theorem step_run {P : Program} {ops : Array Oper} {o : Oper} {a : Act} {w : World} {K : Act → World → Prop} {Q : Exit → Act → World → Prop} {E : Prop} (hgd : o.guard = none) (s x : Operand) (t u ty : TypeId)
    (ho : o.op = .call { callee := .builtin .append, args := #[s, x], argTypes := #[t, u] }) (hty : o.type = ty) {v y v' : Value} {w' : World} (hs : a.eval s = v) (hx : a.eval x = y) (hr : (Builtin.append_ #[t, u] ty #[v, y]).run P w = .ok v' w') (h : K (a.put o.dst v') w') :
    if Region.wanted o (yielded ops a.tmps) = true then Oper.wp P o a w K Q else E := by
  have hw : Region.wanted o (yielded ops a.tmps) = true := by simp [Region.wanted, hgd]
  subst hty
  rw [if_pos hw]
  unfold Oper.wp execOp
  simp only [ho, resolve, invoke, builtin, Sem.run_bind, Sem.run_pure, Result.andThen_ok, List.map_toArray, List.map_cons, List.map_nil, hs, hx, hr]
  exact h
/-- delete, of which the run is known. -/
theorem list_delete {P : Program} {ops : Array Oper} {rest : List Oper} {o : Oper} {a : Act} {w : World} {Q : Exit → Act → World → Prop} (hgd : o.guard = none) (s x : Operand) (t u ty : TypeId)
    (ho : o.op = .call { callee := .builtin .delete, args := #[s, x], argTypes := #[t, u] }) (hty : o.type = ty) {v y v' : Value} {w' : World} (hs : a.eval s = v) (hx : a.eval x = y) (hr : (Builtin.delete_ #[t, u] ty #[v, y]).run P w = .ok v' w') (h : wpList P ops Q rest (a.put o.dst v') w') :
    wpList P ops Q (o :: rest) a w := by
  refine wpList_plain hgd fun K hK => ?_
  subst hty
  unfold Oper.wp execOp
  simp only [ho, resolve, invoke, builtin, Sem.run_bind, Sem.run_pure, Result.andThen_ok, List.map_toArray, List.map_cons, List.map_nil, hs, hx, hr]
  exact hK _ _ h
/-- A row of two bytes that was just made. -/
theorem two_cells (w : World) (n k : Int) (c d : UInt8) (h : n = (c.toNat : Int)) (h' : k = (d.toNat : Int)) (t : TypeId) : ∀ j (h : j < [c, d].length), (w.alloc (.cells #[.int .u8 n, .int .u8 k] t)).cell? ((⟨w.heap.size, 0, none⟩ : Addr).add j) = some (.int .u8 [c, d][j].toNat) := by
  intro j hj
  subst h h'
  match j, hj with
  | 0, _ => simp [Addr.add]
  | 1, _ => simp [Addr.add]
/-- A byte of a string, its index spelled in whatever way. -/
theorem idx (s : ByteArray) (n : Int) (k : Nat) (hn : n = k) (hk : k < s.size) : ∀ w, (Instr.index 9 (.string s) (.int .i64 n)).run Try.prog w = .ok (.int .u8 (s[k].toNat : Int)) w := by
  intro w
  subst hn
  rw [run_index_string w _ s .i64 k Try.underlying9]
  simp [hk]
end By
end Go.Proofs.Ytncgihbnfmpdbaa
