/-
  Contracts: slices of demands of the call's own: append, what a call hands back.
  Contracts: On of admission and of its reference hands back the demands on a host, in a slice of its own.
  Contract: On of the reference.
  Contracts: validName, isHost of the program; registries in memory (chapter 42).
  Contracts: find in a registry's guests (chapter 42).
-/
import Derived.Test.YtmmnanmegdflgaaZ7
import Derived.Test.YtmmnanmegdflgaaZ1
import Derived.Test.YtmmnanmegdflgaaZ2
import Derived.Test.YtmmnanmegdflgaaZ6
import Derived.Test.YtmmnanmegdflgaaZ5
import Derived.Lib.QuietBelow
import Derived.BigQuiet
import Derived.Deep.RegionHeld3
import Derived.WalkLawsBesides
import Derived.Laws.Externs
import Derived.Outline
namespace Go.Proofs.Ytmmnanmegdflgaa
open Go.RowKit
set_option linter.unusedVariables false
set_option maxRecDepth 100000
namespace Law39
open Ad Adm
theorem info_dem : (Try.prog.info? 23).map (fun i => (i.zero, i.size, i.bytes)) = some (some (.agg #[.int .i64 0, .int .i64 0, .int .i64 0, .int .i64 0]), 4, 32) := by kernel_rfl
theorem cells_len (L : List Dem) : (cells L).length = L.length * 4 := by
  unfold cells; induction L with
  | nil => rfl
  | cons d L ih => rw [List.flatMap_cons, List.length_append, ih, List.length_cons]; simp; omega
theorem cells_snoc (L : List Dem) (d : Dem) : cells (L ++ [d]) = cells L ++ [.int .i64 d.r, .int .i64 d.l, .int .i64 d.c, .int .i64 d.g] := by
  unfold cells; rw [List.flatMap_append, List.flatMap_singleton]
/-- Append of one demand to a slice that the call itself made. -/
theorem app_dem (w : World) {ops : Array Oper} {rest : List Oper} {o : Oper} {a : Act} {Q : Exit → Act → World → Prop} (hgd : o.guard = none) (s x : Operand)
    (ho : o.op = .call { callee := .builtin .append, args := #[s, x], argTypes := #[81, 81] }) (base : Nat) (v : Value) (L : List Dem) (d : Dem) (B : Nat)
    (hs : a.eval s = v) (hown : w.ownsRow base 23 4 v L.length (cells L)) (hx : a.eval x = .slice (some ⟨B, 0, none⟩) 1 1)
    (h0 : w.cell? ⟨B, 0, none⟩ = some (.int .i64 d.r)) (h1 : w.cell? ⟨B, 1, none⟩ = some (.int .i64 d.l)) (h2 : w.cell? ⟨B, 2, none⟩ = some (.int .i64 d.c)) (h3 : w.cell? ⟨B, 3, none⟩ = some (.int .i64 d.g))
    (hb : (L.length + 1) * 32 ≤ 140737488355328) (hbase : base ≤ w.heap.size)
    (h : ∀ v' w', w'.ownsRow base 23 4 v' (L ++ [d]).length (cells (L ++ [d])) → w.grownBy w' v.ownBlock → (v' = .slice none 0 0 ↔ v = .slice none 0 0 ∧ 1 = 0) → wpList Try.prog ops Q rest (a.put o.dst v') w') :
    wpList Try.prog ops Q (o :: rest) a w := by
  obtain ⟨i0, hi, hz0, hz1, hz2⟩ := info_parts info_dem
  refine wpList_append_own w hgd s x 81 ho base 23 i0 (.agg #[.int .i64 0, .int .i64 0, .int .i64 0, .int .i64 0]) 4 32 Try.underlying81 hi hz0 hz1 hz2 rfl (by decide) v L.length (cells L) hs hown ⟨B, 0, none⟩ 1 1
    [.int .i64 d.r, .int .i64 d.l, .int .i64 d.c, .int .i64 d.g] hx rfl ?_ ?_ (by unfold maxLen; omega) (by omega) hbase ?_
  · intro j u hj
    match j, hj with
    | 0, hj => simp at hj; subst hj; exact h0
    | 1, hj => simp at hj; subst hj; exact h1
    | 2, hj => simp at hj; subst hj; exact h2
    | 3, hj => simp at hj; subst hj; exact h3
    | j + 4, hj => simp at hj
  · intro u hu; simp at hu; rcases hu with rfl | rfl | rfl | rfl <;> rfl
  · intro v' w' g1 g2 g3
    refine h v' w' ?_ g2 g3
    rw [cells_snoc, List.length_append]; exact g1
/-- A row of the call's own reads as demands. -/
theorem ds_of_own {w : World} {base : Nat} {A : Option Addr} {n cap : Nat} {L : List Dem} (h : w.ownsRow base 23 4 (.slice A n cap) L.length (cells L)) : Ds w A L.length L ∧ n = L.length ∧ L.length ≤ cap := by
  obtain ⟨hl, h⟩ := h
  rcases h with ⟨he, h0⟩ | ⟨g, cp, cur, he, hb, hh, hn, hm, hc, ht⟩
  · injection he with e1 e2 e3
    subst e2
    exact ⟨⟨rfl, .inl h0⟩, h0.symm, by omega⟩
  · injection he with e1 e2 e3
    subst e1 e2 e3
    refine ⟨⟨rfl, .inr ⟨g, 0, rfl, fun k hk => ?_⟩⟩, rfl, hn⟩
    have hcell : ∀ j (hj : j < (cells L).length), w.cell? ⟨g, j, none⟩ = some (cells L)[j] := by
      intro j hj
      have h1 : (cur.toList.take (L.length * 4))[j]? = some (cells L)[j] := by rw [ht]; exact List.getElem?_eq_getElem hj
      rw [cells_len] at hj
      rw [List.getElem?_take, if_pos hj] at h1
      simp only [World.cell?, hh]
      simpa using h1
    have hat : ∀ i (hi : i < 4), (cells L)[k * 4 + i]? = [Value.int .i64 L[k].r, .int .i64 L[k].l, .int .i64 L[k].c, .int .i64 L[k].g][i]? := by
      intro i hi
      have e : cells L = cells (L.take k) ++ (cells [L[k]] ++ cells (L.drop (k + 1))) := by
        have : L = L.take k ++ ([L[k]] ++ L.drop (k + 1)) := by simp
        exact (congrArg cells this).trans (by unfold cells; rw [List.flatMap_append, List.flatMap_append])
      have hlk : (cells (L.take k)).length = k * 4 := by rw [cells_len, List.length_take, Nat.min_eq_left (by omega)]
      rw [e, List.getElem?_append_right (by omega), hlk, Nat.add_sub_cancel_left, List.getElem?_append_left (by rw [cells_len]; simpa using hi)]
      rfl
    have fin : ∀ i (hi : i < 4) (u : Value), [Value.int .i64 L[k].r, .int .i64 L[k].l, .int .i64 L[k].c, .int .i64 L[k].g][i]? = some u → w.cell? ⟨g, k * 4 + i, none⟩ = some u := by
      intro i hi u hu
      have hj : k * 4 + i < (cells L).length := by rw [cells_len]; omega
      have h1 := hat i hi
      rw [List.getElem?_eq_getElem hj, hu] at h1
      rw [hcell _ hj]; exact h1
    have z : ∀ j, 0 + k * 4 + j = k * 4 + j := by intro j; omega
    refine ⟨?_, ?_, ?_, ?_⟩
    · have := fin 0 (by omega) _ rfl; simpa using this
    · have := fin 1 (by omega) _ rfl; simpa using this
    · have := fin 2 (by omega) _ rfl; simpa using this
    · have := fin 3 (by omega) _ rfl; simpa using this
/-- The call hands back a slice of its own, the demands L. -/
def MakesDs (L : List Dem) (w : World) (e : Ending) (w' : World) : Prop := ∃ v, e = .returned v ∧ w'.ownsRow w.heap.size 23 4 v L.length (cells L) ∧ Held w w'
theorem held_app {W w w1 : World} {v : Value} {e : TypeId} {size n : Nat} {xs : List Value} {o : Obj} (hb : Held W w) (hown : w.ownsRow W.heap.size e size v n xs) (hg : (w.alloc o).grownBy w1 v.ownBlock) : Held W w1 := by
  refine (Below.alloc hb hb.size o).grown hg (by have := hb.size; simp; omega) ?_
  intro k hk
  obtain ⟨_, h⟩ := hown
  rcases h with ⟨rfl, _⟩ | ⟨g, cap, cur, rfl, hg', _⟩
  · simp [Value.ownBlock] at hk
  · simp [Value.ownBlock] at hk; omega
theorem own_held {W w w1 : World} {v : Value} {e : TypeId} {size n : Nat} {xs : List Value} (h : w.ownsRow W.heap.size e size v n xs) (hw : Held w w1) : w1.ownsRow W.heap.size e size v n xs := by
  refine ⟨h.1, ?_⟩
  rcases h.2 with h2 | ⟨g, cap, cur, hv, hb, hh, r⟩
  · exact .inl h2
  · refine .inr ⟨g, cap, cur, hv, hb, ?_, r⟩
    rw [hw.block g ?_]; exact hh
    rcases Nat.lt_or_ge g w.heap.size with hl | hl
    · exact hl
    · rw [Array.getElem?_eq_none hl] at hh; cases hh
end Law39
end Go.Proofs.Ytmmnanmegdflgaa

namespace Go.Proofs.Ytmmnanmegdflgaa
open Go.RowKit
set_option linter.unusedVariables false
set_option maxRecDepth 100000
namespace Law39
open Ad Adm
/-- The slice value '.slice A n _' holds the placements L. -/
def Ps (w : World) (A : Option Addr) (n : Nat) (L : List Pl) : Prop :=
  L.length = n ∧ (n = 0 ∨ ∃ b off, A = some ⟨b, off, none⟩ ∧ ∀ k (h : k < L.length), w.cell? ⟨b, off + k * 7, none⟩ = some (.string L[k].nm) ∧ w.cell? ⟨b, off + k * 7 + 1, none⟩ = some (.int .i64 L[k].d.r) ∧
    w.cell? ⟨b, off + k * 7 + 2, none⟩ = some (.int .i64 L[k].d.l) ∧ w.cell? ⟨b, off + k * 7 + 3, none⟩ = some (.int .i64 L[k].d.c) ∧ w.cell? ⟨b, off + k * 7 + 4, none⟩ = some (.int .i64 L[k].d.g) ∧
    w.cell? ⟨b, off + k * 7 + 5, none⟩ = some (.int .i64 L[k].a) ∧ w.cell? ⟨b, off + k * 7 + 6, none⟩ = some (.int .i64 L[k].b))
theorem Ps.held {w a : World} {A : Option Addr} {n : Nat} {L : List Pl} (h : Ps w A n L) (ha : Held w a) : Ps a A n L :=
  ⟨h.1, h.2.imp id fun ⟨b, off, e, hc⟩ => ⟨b, off, e, fun k hk => ⟨ha.cell (hc k hk).1, ha.cell (hc k hk).2.1, ha.cell (hc k hk).2.2.1, ha.cell (hc k hk).2.2.2.1, ha.cell (hc k hk).2.2.2.2.1, ha.cell (hc k hk).2.2.2.2.2.1, ha.cell (hc k hk).2.2.2.2.2.2⟩⟩⟩
theorem Ps.at_ {w a : World} {A : Option Addr} {n : Nat} {L : List Pl} (h : Ps w A n L) (ha : Held w a) {k : Nat} (hk : k < n) : ∃ b off nm r l c g x y, A = some ⟨b, off, none⟩ ∧ L[k]? = some ⟨nm, ⟨r, l, c, g⟩, x, y⟩ ∧
    a.cell? ⟨b, off + k * 7, none⟩ = some (.string nm) ∧ a.cell? ⟨b, off + k * 7 + 1, none⟩ = some (.int .i64 r) ∧ a.cell? ⟨b, off + k * 7 + 2, none⟩ = some (.int .i64 l) ∧ a.cell? ⟨b, off + k * 7 + 3, none⟩ = some (.int .i64 c) ∧
    a.cell? ⟨b, off + k * 7 + 4, none⟩ = some (.int .i64 g) ∧ a.cell? ⟨b, off + k * 7 + 5, none⟩ = some (.int .i64 x) ∧ a.cell? ⟨b, off + k * 7 + 6, none⟩ = some (.int .i64 y) := by
  rcases h.2 with h0 | ⟨b, off, e, hc⟩
  · omega
  · have hl : k < L.length := by rw [h.1]; exact hk
    exact ⟨b, off, L[k].nm, L[k].d.r, L[k].d.l, L[k].d.c, L[k].d.g, L[k].a, L[k].b, e, List.getElem?_eq_getElem hl, ha.cell (hc k hl).1, ha.cell (hc k hl).2.1, ha.cell (hc k hl).2.2.1, ha.cell (hc k hl).2.2.2.1, ha.cell (hc k hl).2.2.2.2.1, ha.cell (hc k hl).2.2.2.2.2.1, ha.cell (hc k hl).2.2.2.2.2.2⟩
/-- What the inner loop has gathered of one guest. -/
def part (nm : ByteArray) (d : Dem) (x y h : Int) (j : Nat) : List Dem := (if 0 < j ∧ x = h then [d] else []) ++ (if 1 < j ∧ y = h then [d] else [])
theorem box_cell {w : World} {q : Nat} {cs : Array Value} {t : TypeId} (h : w.heap[q]? = some (.cells cs t)) (j : Nat) {v : Value} (hv : cs[j]? = some v) : w.cell? ⟨q, j, none⟩ = some v := by simp [World.cell?, h, hv]
theorem box_new (w : World) (o : Obj) : (w.alloc o).heap[w.heap.size]? = some o := by
  show (w.heap.push o)[w.heap.size]? = _
  rw [Array.getElem?_push, if_pos rfl]
theorem box_app {w w1 : World} {base : Nat} {v : Value} {e : TypeId} {size n : Nat} {xs : List Value} {o : Obj} {q : Nat} {cs : Array Value} {t : TypeId} (hown : w.ownsRow base e size v n xs) (hq : w.heap[q]? = some (.cells cs t)) (ht : t ≠ e)
    (hg : (w.alloc o).grownBy w1 v.ownBlock) : w1.heap[q]? = some (.cells cs t) := by
  have hl : q < w.heap.size := by
    rcases Nat.lt_or_ge q w.heap.size with hl | hl
    · exact hl
    · rw [Array.getElem?_eq_none hl] at hq; cases hq
  rw [hg.block q (by simp; omega) ?_]
  · show (w.heap.push o)[q]? = _
    rw [Array.getElem?_push, if_neg (by omega)]; exact hq
  · intro e1
    rcases hown.2 with ⟨rfl, _⟩ | ⟨g, cap, cur, rfl, _, hh, _⟩
    · simp [Value.ownBlock] at e1
    · simp [Value.ownBlock] at e1
      subst e1
      rw [hq] at hh
      simp at hh
      exact ht hh.2
theorem part_len (nm : ByteArray) (d : Dem) (x y h : Int) (j : Nat) : (part nm d x y h j).length ≤ 2 := by unfold part; split <;> split <;> simp
theorem on_any (A : Option Addr) (len cap : Nat) (L : List Pl) (h : Int) (w : World) (hp : Ps w A len L) (hl : (len : Int) ≤ 1000) :
    Calls Try.prog 50 #[.slice A len cap, .int .i64 h] w (MakesDs (on L h) w) := by
  have HP := Lib.hid hp
  have HL := Lib.hid hp.1
  clear hp
  go_enter Try.func50, Try.ntmps50
  go_wp2
  go_loopw [5, 12] (fun v i wr => ∃ k : Nat, k ≤ len ∧ i = .int .i64 k ∧ wr.ownsRow w.heap.size 23 4 v (on (L.take k) h).length (cells (on (L.take k) h)) ∧ Held w wr) (fun _ i _ => len - (intOf i).toNat)
  case atStart => exact ⟨0, Nat.zero_le _, rfl, World.ownsRow_nil _ _ _ _, Held.refl _⟩
  case round =>
    obtain ⟨k, hk, rfl, hown, hh⟩ := hrel
    have HO := Lib.hid hown
    have hll : (on (L.take k) h).length ≤ 2000 := by have := on_len (L.take k) h; rw [List.length_take, HL.out] at this; omega
    clear hown
    by_cases hlt : k < len
    · obtain ⟨b, off, nm, r, l, c, g, x, y, rfl, hn, c0, c1, c2, c3, c4, c5, c6⟩ := HP.out.at_ hh hlt
      have HS := Lib.hid (on_snoc L k _ h hn)
      clear hn
      go_wp2
      go_loopw [5, 18] (fun v i w2 => ∃ j : Nat, j ≤ 2 ∧ i = .int .i64 j ∧ w2.ownsRow w.heap.size 23 4 v (on (L.take k) h ++ part nm ⟨r, l, c, g⟩ x y h j).length (cells (on (L.take k) h ++ part nm ⟨r, l, c, g⟩ x y h j)) ∧ Held w w2 ∧
          w2.heap[wr.heap.size]? = some (.cells #[.string nm, .int .i64 r, .int .i64 l, .int .i64 c, .int .i64 g, .int .i64 x, .int .i64 y] 75)) (fun _ i _ => 2 - (intOf i).toNat)
      case atStart => exact ⟨0, by omega, rfl, by simpa [part] using HO.out.alloc _, Below.alloc hh hh.size _, box_new _ _⟩
      case round =>
        obtain ⟨j, hj, rfl, hown2, hh2, hbox⟩ := hrel
        have d1 := box_cell hbox 1 rfl
        have d2 := box_cell hbox 2 rfl
        have d3 := box_cell hbox 3 rfl
        have d4 := box_cell hbox 4 rfl
        have HB := Lib.hid hbox
        clear hbox
        have HO2 := Lib.hid hown2
        clear hown2
        have i0 : ∀ w : World, (Instr.index 73 (.agg #[.int .i64 x, .int .i64 y]) (.int .i64 0)).run Try.prog w = .ok (.int .i64 x) w := fun _ => by kernel_rfl
        have i1 : ∀ w : World, (Instr.index 73 (.agg #[.int .i64 x, .int .i64 y]) (.int .i64 1)).run Try.prog w = .ok (.int .i64 y) w := fun _ => by kernel_rfl
        have hl2 : (on (L.take k) h ++ part nm ⟨r, l, c, g⟩ x y h j).length ≤ 2002 := by rw [List.length_append]; have := part_len nm ⟨r, l, c, g⟩ x y h j; omega
        have hlw : w.heap.size ≤ wr.heap.size := hh2.le
        obtain rfl | rfl | rfl : j = 0 ∨ j = 1 ∨ j = 2 := by omega
        · by_cases hx : x = h
          · subst hx
            go_wp2_with (first | (at_builtin; refine app_dem _ rfl _ _ rfl w.heap.size _ (on (L.take k) x ++ part nm ⟨r, l, c, g⟩ x y x 0) ⟨r, l, c, g⟩ wr.heap.size rfl (HO2.out.alloc _) rfl (by simp) (by simp) (by simp) (by simp) (by omega) (by have := hh2.le; simp; omega) ?_; intro v' w3 hown1 hg1 _))
            have h3 := box_app HO2.out HB.out (by decide) hg1
            go_roundw
            case rel => exact ⟨1, by omega, by go_num, by simpa [part] using hown1, held_app hh2 HO2.out hg1, h3⟩
            case measure => simp [intOf]
          · go_wp2
            go_roundw
            case rel => exact ⟨1, by omega, by go_num, by simpa [part, hx] using HO2.out, hh2, HB.out⟩
            case measure => simp [intOf]
        · by_cases hx : y = h
          · subst hx
            go_wp2_with (first | (at_builtin; refine app_dem _ rfl _ _ rfl w.heap.size _ (on (L.take k) y ++ part nm ⟨r, l, c, g⟩ x y y 1) ⟨r, l, c, g⟩ wr.heap.size rfl (HO2.out.alloc _) rfl (by simp) (by simp) (by simp) (by simp) (by omega) (by have := hh2.le; simp; omega) ?_; intro v' w3 hown1 hg1 _))
            have h3 := box_app HO2.out HB.out (by decide) hg1
            go_roundw
            case rel => exact ⟨2, by omega, by go_num, by simpa [part] using hown1, held_app hh2 HO2.out hg1, h3⟩
            case measure => simp [intOf]
          · go_wp2
            go_roundw
            case rel => exact ⟨2, by omega, by go_num, by simpa [part, hx] using HO2.out, hh2, HB.out⟩
            case measure => simp [intOf]
        · go_wp2
          go_roundw
          case rel => exact ⟨k + 1, by omega, by go_num, by rw [HS.out]; simpa [part, onOne] using HO2.out, hh2⟩
          case measure => simp [intOf]; omega
    · obtain rfl : k = len := by omega
      have HT : Hid (L.take k = L) := show _ = _ by rw [← HL.out, List.take_length]
      go_wp2
      go_ret
      exact ⟨_, rfl, by have := HO.out; rw [HT.out] at this; exact this, hh⟩
end Law39
end Go.Proofs.Ytmmnanmegdflgaa

namespace Go.Proofs.Ytmmnanmegdflgaa
open Go.RowKit
set_option linter.unusedVariables false
set_option maxRecDepth 100000
namespace Law39
open Ad Adm
theorem on_ref_any (A : Option Addr) (len cap : Nat) (L : List Pl) (h : Int) (w : World) (hp : Ps w A len L) (hl : (len : Int) ≤ 1000) :
    Calls Try.prog 62 #[.slice A len cap, .int .i64 h] w (MakesDs (on L h) w) := by
  have HP := Lib.hid hp
  have HL := Lib.hid hp.1
  clear hp
  go_enter Try.func62, Try.ntmps62
  go_wp2
  go_loopw [5, 6] (fun v i wr => ∃ k : Nat, k ≤ len ∧ i = .int .i64 k ∧ wr.ownsRow w.heap.size 23 4 v (on (L.take k) h).length (cells (on (L.take k) h)) ∧ Held w wr) (fun _ i _ => len - (intOf i).toNat)
  case atStart => exact ⟨0, Nat.zero_le _, rfl, World.ownsRow_nil _ _ _ _, Held.refl _⟩
  case round =>
    obtain ⟨k, hk, rfl, hown, hh⟩ := hrel
    have HO := Lib.hid hown
    have hll : (on (L.take k) h).length ≤ 2000 := by have := on_len (L.take k) h; rw [List.length_take, HL.out] at this; omega
    clear hown
    by_cases hlt : k < len
    · obtain ⟨b, off, nm, r, l, c, g, x, y, rfl, hn, c0, c1, c2, c3, c4, c5, c6⟩ := HP.out.at_ (Held.refl _) hlt
      have HS := Lib.hid (on_snoc L k _ h hn)
      clear hn
      go_wp2
      go_loopw [5, 7] (fun v i w2 => ∃ j : Nat, j ≤ 2 ∧ i = .int .i64 j ∧ w2.ownsRow w.heap.size 23 4 v (on (L.take k) h ++ part nm ⟨r, l, c, g⟩ x y h j).length (cells (on (L.take k) h ++ part nm ⟨r, l, c, g⟩ x y h j)) ∧ Held w w2) (fun _ i _ => 2 - (intOf i).toNat)
      case atStart => exact ⟨0, by omega, rfl, by simpa [part] using HO.out, hh⟩
      case round =>
        obtain ⟨j, hj, rfl, hown2, hh2⟩ := hrel
        have HO2 := Lib.hid hown2
        clear hown2
        have hl2 : (on (L.take k) h ++ part nm ⟨r, l, c, g⟩ x y h j).length ≤ 2002 := by rw [List.length_append]; have := part_len nm ⟨r, l, c, g⟩ x y h j; omega
        have hlw : w.heap.size ≤ wr.heap.size := hh2.le
        have d1 := hh2.cell c1
        have d2 := hh2.cell c2
        have d3 := hh2.cell c3
        have d4 := hh2.cell c4
        have d5 := hh2.cell c5
        have d6 := hh2.cell c6
        obtain rfl | rfl | rfl : j = 0 ∨ j = 1 ∨ j = 2 := by omega
        · by_cases hx : x = h
          · subst hx
            go_wp2_with (first | (at_builtin; refine app_dem _ rfl _ _ rfl w.heap.size _ (on (L.take k) x ++ part nm ⟨r, l, c, g⟩ x y x 0) ⟨r, l, c, g⟩ wr.heap.size rfl (HO2.out.alloc _) rfl (by simp) (by simp) (by simp) (by simp) (by omega) (by have := hh2.le; simp; omega) ?_; intro v' w3 hown1 hg1 _))
            go_roundw
            case rel => exact ⟨1, by omega, by go_num, by simpa [part] using hown1, held_app hh2 HO2.out hg1⟩
            case measure => simp [intOf]
          · go_wp2
            go_roundw
            case rel => exact ⟨1, by omega, by go_num, by simpa [part, hx] using HO2.out, hh2⟩
            case measure => simp [intOf]
        · by_cases hx : y = h
          · subst hx
            go_wp2_with (first | (at_builtin; refine app_dem _ rfl _ _ rfl w.heap.size _ (on (L.take k) y ++ part nm ⟨r, l, c, g⟩ x y y 1) ⟨r, l, c, g⟩ wr.heap.size rfl (HO2.out.alloc _) rfl (by simp) (by simp) (by simp) (by simp) (by omega) (by have := hh2.le; simp; omega) ?_; intro v' w3 hown1 hg1 _))
            go_roundw
            case rel => exact ⟨2, by omega, by go_num, by simpa [part] using hown1, held_app hh2 HO2.out hg1⟩
            case measure => simp [intOf]
          · go_wp2
            go_roundw
            case rel => exact ⟨2, by omega, by go_num, by simpa [part, hx] using HO2.out, hh2⟩
            case measure => simp [intOf]
        · go_wp2
          go_roundw
          case rel => exact ⟨k + 1, by omega, by go_num, by rw [HS.out]; simpa [part, onOne] using HO2.out, hh2⟩
          case measure => simp [intOf]; omega
    · obtain rfl : k = len := by omega
      have HT : Hid (L.take k = L) := show _ = _ by rw [← HL.out, List.take_length]
      go_wp2
      go_ret
      exact ⟨_, rfl, by have := HO.out; rw [HT.out] at this; exact this, hh⟩
end Law39
end Go.Proofs.Ytmmnanmegdflgaa

set_option linter.unusedVariables false
set_option linter.unusedSimpArgs false
set_option maxRecDepth 100000
namespace Go.Proofs.Ytmmnanmegdflgaa
open Go.RowKit
namespace Jn
open Ad Adm Law39
def capC (c : Cap) : List Value := [.int .i64 c.m, .int .i64 c.c, .bool c.up]
theorem capC_len (x : Cap) : (capC x).length = 3 := rfl
theorem capC_one (x : Cap) : ∀ u ∈ capC x, u.oneCell' = true := by intro u hu; simp [capC] at hu; rcases hu with rfl | rfl | rfl <;> rfl
def plC (p : Pl) : List Value := [.string p.nm, .int .i64 p.d.r, .int .i64 p.d.l, .int .i64 p.d.c, .int .i64 p.d.g, .int .i64 p.a, .int .i64 p.b]
theorem plC_len (x : Pl) : (plC x).length = 7 := rfl
theorem plC_one (x : Pl) : ∀ u ∈ plC x, u.oneCell' = true := by intro u hu; simp [plC] at hu; rcases hu with rfl | rfl | rfl | rfl | rfl | rfl | rfl <;> rfl
theorem capAt {w a : World} {A : Option Addr} {n : Nat} {L : List Cap} (h : Sl 3 capC w A n L) (ha : Held w a) {k : Nat} (hk : k < n) :
    ∃ b off m c up, A = some ⟨b, off, none⟩ ∧ b < w.heap.size ∧ L[k]? = some ⟨m, c, up⟩ ∧ a.cell? ⟨b, off + k * 3, none⟩ = some (.int .i64 m) ∧ a.cell? ⟨b, off + k * 3 + 1, none⟩ = some (.int .i64 c) ∧ a.cell? ⟨b, off + k * 3 + 2, none⟩ = some (.bool up) := by
  obtain ⟨b, off, x, e, hb, hx, hc⟩ := Sl.at_ h ha hk
  exact ⟨b, off, x.m, x.c, x.up, e, hb, hx, hc 0 _ rfl, hc 1 _ rfl, hc 2 _ rfl⟩
theorem plAt {w a : World} {A : Option Addr} {n : Nat} {L : List Pl} (h : Sl 7 plC w A n L) (ha : Held w a) {k : Nat} (hk : k < n) :
    ∃ b off nm r l c g x y, A = some ⟨b, off, none⟩ ∧ b < w.heap.size ∧ L[k]? = some ⟨nm, ⟨r, l, c, g⟩, x, y⟩ ∧ a.cell? ⟨b, off + k * 7, none⟩ = some (.string nm) ∧ a.cell? ⟨b, off + k * 7 + 1, none⟩ = some (.int .i64 r) ∧
      a.cell? ⟨b, off + k * 7 + 2, none⟩ = some (.int .i64 l) ∧ a.cell? ⟨b, off + k * 7 + 3, none⟩ = some (.int .i64 c) ∧ a.cell? ⟨b, off + k * 7 + 4, none⟩ = some (.int .i64 g) ∧
      a.cell? ⟨b, off + k * 7 + 5, none⟩ = some (.int .i64 x) ∧ a.cell? ⟨b, off + k * 7 + 6, none⟩ = some (.int .i64 y) := by
  obtain ⟨b, off, x, e, hb, hx, hc⟩ := Sl.at_ h ha hk
  exact ⟨b, off, x.nm, x.d.r, x.d.l, x.d.c, x.d.g, x.a, x.b, e, hb, hx, hc 0 _ rfl, hc 1 _ rfl, hc 2 _ rfl, hc 3 _ rfl, hc 4 _ rfl, hc 5 _ rfl, hc 6 _ rfl⟩
theorem ps_of {w : World} {A : Option Addr} {n : Nat} {L : List Pl} (h : Sl 7 plC w A n L) : Ps w A n L := by
  refine ⟨h.1, h.2.imp id ?_⟩
  rintro ⟨b, off, e, hb, hc⟩
  exact ⟨b, off, e, fun k hk => ⟨hc k hk 0 _ rfl, hc k hk 1 _ rfl, hc k hk 2 _ rfl, hc k hk 3 _ rfl, hc k hk 4 _ rfl, hc k hk 5 _ rfl, hc k hk 6 _ rfl⟩⟩
theorem ret_b {a b : Bool} (h : a = b) : Ending.returned (.bool a) = .returned (.bool b) := by rw [h]
theorem named_any (nm : ByteArray) (hs : (nm.size : Int) ≤ 1000000000000) (w : World) : Calls Try.prog 45 #[.string nm] w fun e w' => e = .returned (.bool (named nm)) ∧ Held w w' := by
  by_cases h1 : (1 : Int) ≤ nm.size
  · have HN : Is (named nm) (decide ((nm.size : Int) ≤ 12)) := ⟨by unfold named; rw [decide_eq_true (by omega), Bool.true_and, decide_eq_decide]; omega⟩
    go_enter Try.func45, Try.ntmps45
    go_wp2
    go_ret
    exact ⟨ret_b HN.out.symm, Held.refl _⟩
  · have HN : Is (named nm) false := ⟨by unfold named; rw [decide_eq_false (by omega)]; rfl⟩
    have hd : decide ((1 : Int) ≤ nm.size) = false := decide_eq_false h1
    go_enter Try.func45, Try.ntmps45
    go_wp2
    go_ret
    exact ⟨ret_b HN.out.symm, Held.refl _⟩
theorem named_ref_any (nm : ByteArray) (hs : (nm.size : Int) ≤ 1000000000000) (w : World) : Calls Try.prog 58 #[.string nm] w fun e w' => e = .returned (.bool (named nm)) ∧ Held w w' := by
  by_cases h1 : (1 : Int) ≤ nm.size
  · have HN : Is (named nm) (decide ((nm.size : Int) ≤ 12)) := ⟨by unfold named; rw [decide_eq_true (by omega), Bool.true_and, decide_eq_decide]; omega⟩
    go_enter Try.func58, Try.ntmps58
    go_wp2
    go_ret
    exact ⟨ret_b HN.out.symm, Held.refl _⟩
  · have HN : Is (named nm) false := ⟨by unfold named; rw [decide_eq_false (by omega)]; rfl⟩
    have hd : decide ((1 : Int) ≤ nm.size) = false := decide_eq_false h1
    go_enter Try.func58, Try.ntmps58
    go_wp2
    go_ret
    exact ⟨ret_b HN.out.symm, Held.refl _⟩
theorem isHost_any (HA : Option Addr) (hn hc : Nat) (GA : Option Addr) (gn gc : Nat) (h : Int) (hh : (hn : Int) ≤ 1000000) (w : World) :
    Calls Try.prog 47 #[.agg #[.slice HA hn hc, .slice GA gn gc], .int .i64 h] w fun e w' => e = .returned (.bool (there hn h)) ∧ Held w w' := by
  by_cases h1 : (0 : Int) ≤ h
  · have HN : Is (there hn h) (decide (h < hn)) := ⟨by unfold there; rw [decide_eq_true h1]; rfl⟩
    go_enter Try.func47, Try.ntmps47
    go_wp2
    go_ret
    exact ⟨ret_b HN.out.symm, (Held.refl _).alloc _⟩
  · have HN : Is (there hn h) false := ⟨by unfold there; rw [decide_eq_false h1]; rfl⟩
    have hd : decide ((0 : Int) ≤ h) = false := decide_eq_false h1
    go_enter Try.func47, Try.ntmps47
    go_wp2
    go_ret
    exact ⟨ret_b HN.out.symm, (Held.refl _).alloc _⟩
theorem there_ref_any (HA : Option Addr) (hn hc : Nat) (h : Int) (hh : (hn : Int) ≤ 1000000) (w : World) :
    Calls Try.prog 60 #[.slice HA hn hc, .int .i64 h] w fun e w' => e = .returned (.bool (there hn h)) ∧ Held w w' := by
  by_cases h1 : (0 : Int) ≤ h
  · have HN : Is (there hn h) (decide (h < hn)) := ⟨by unfold there; rw [decide_eq_true h1]; rfl⟩
    go_enter Try.func60, Try.ntmps60
    go_wp2
    go_ret
    exact ⟨ret_b HN.out.symm, Held.refl _⟩
  · have HN : Is (there hn h) false := ⟨by unfold there; rw [decide_eq_false h1]; rfl⟩
    have hd : decide ((0 : Int) ≤ h) = false := decide_eq_false h1
    go_enter Try.func60, Try.ntmps60
    go_wp2
    go_ret
    exact ⟨ret_b HN.out.symm, Held.refl _⟩
end Jn
end Go.Proofs.Ytmmnanmegdflgaa

set_option linter.unusedVariables false
set_option linter.unusedSimpArgs false
set_option maxRecDepth 100000
namespace Go.Proofs.Ytmmnanmegdflgaa
open Go.RowKit
namespace Jn
open Ad Adm Law39
theorem cmpString_any (a b : ByteArray) (w : World) : Calls Try.prog 95 #[.string a, .string b] w fun e w' => e = .returned (.int .i64 (Lib.compareBytes a.data.toList b.data.toList)) ∧ w = w' := by
  go_enter Try.func95, Try.ntmps95
  go_wp2
  rw [run_callFunc_extern (P := Try.prog) (f := 98) (fn := Try.f98) (by kernel_rfl) (by kernel_rfl) (by kernel_rfl) (by kernel_rfl) (e := Extern.BytealgCompare.compare) (by kernel_rfl), Lib.run_compareString]
  simp only [Result.andThen]
  rw [Oper.upon_value]
  go_wp2
  go_ret
  exact ⟨rfl, rfl⟩
theorem compare_any (a b : ByteArray) (w : World) : Calls Try.prog 85 #[.string a, .string b] w fun e w' => e = .returned (.int .i64 (Lib.compareBytes a.data.toList b.data.toList)) ∧ w = w' := by
  go_enter Try.func85, Try.ntmps85
  go_wp2_with (go_at_call 95; refine (cmpString_any _ _ _).mono ?_; rintro e w' ⟨rfl, rfl⟩)
  go_ret
  exact ⟨rfl, rfl⟩
theorem cmpF_any (nm : ByteArray) (r l c g x y : Int) (s : ByteArray) (w : World) : Calls Try.prog 84 #[.agg #[.string nm, .int .i64 r, .int .i64 l, .int .i64 c, .int .i64 g, .int .i64 x, .int .i64 y], .string s] w
    fun e w' => e = .returned (.int .i64 (Lib.compareBytes nm.data.toList s.data.toList)) ∧ Held w w' := by
  go_enter Try.func84, Try.ntmps84
  go_wp2_with (go_at_call 85; refine (compare_any _ _ _).mono ?_; rintro e w' ⟨rfl, rfl⟩)
  go_ret
  exact ⟨rfl, (Held.refl w).alloc _⟩
theorem cmp_pos {x y : ByteArray} : decide (Lib.compareBytes x.data.toList y.data.toList < 0) = lt x y := by rw [cmp_lt]; unfold lt; rw [ByteArray.toList_eq, ByteArray.toList_eq]
theorem cmp_zero {x y : ByteArray} : decide (Lib.compareBytes x.data.toList y.data.toList = 0) = same x y := by
  unfold same
  rw [Bool.eq_iff_iff, decide_eq_true_eq, cmp_eq, beq_iff_eq, ByteArray.toList_eq, ByteArray.toList_eq]
/-- Where a name stands, or would stand. -/
def FindTo (G : List Pl) (s : ByteArray) (w : World) (e : Ending) (w' : World) : Prop := e = .returned (.tuple #[.int .i64 ((pos G s : Nat) : Int), .bool (hasG G s)]) ∧ Held w w'
set_option maxHeartbeats 2000000 in
theorem search_any (A : Option Addr) (n cap : Nat) (G : List Pl) (s : ByteArray) (w : World) (hG : Sl 7 plC w A n G) (hs : Srt G) (hn : (n : Int) ≤ 1000) :
    Calls Try.prog 83 #[.slice A n cap, .string s, .func (.func 84) #[] #[]] w (FindTo G s w) := by
  have HG := Lib.hid hG
  have HL : Is G.length n := ⟨hG.1⟩
  have HS := Lib.hid hs
  clear hG hs
  go_enter Try.func83, Try.ntmps83
  go_wp2
  go_loopw [9, 10] (fun a b wr => ∃ i j : Nat, a = .int .i64 i ∧ b = .int .i64 j ∧ i ≤ j ∧ j ≤ n ∧ Hid (∀ k (hk : k < G.length), k < i → lt G[k].nm s = true) ∧ Hid (∀ k (hk : k < G.length), j ≤ k → lt G[k].nm s = false) ∧ Held w wr) (fun a b _ => (intOf b).toNat - (intOf a).toNat)
  case atStart => exact ⟨0, n, rfl, rfl, Nat.zero_le _, Nat.le_refl _, (fun k _ h => absurd h (Nat.not_lt_zero _) : ∀ k (hk : k < G.length), k < 0 → lt G[k].nm s = true), (fun k hk h => absurd hk (by rw [HL.out]; omega) : ∀ k (hk : k < G.length), n ≤ k → lt G[k].nm s = false), Held.refl _⟩
  case round =>
    obtain ⟨i, j, rfl, rfl, hij, hjn, L1, L2, hh⟩ := hrel
    by_cases hlt : i < j
    · have hm : (i + j) / 2 < n := by omega
      obtain ⟨b, off, nm, r, l, c, g, x, y, rfl, lb, hp, p0, p1, p2, p3, p4, p5, p6⟩ := plAt HG.out hh hm
      have HP := Lib.hid hp
      have HC : ∀ w, Hid (Calls Try.prog 84 #[.agg #[.string nm, .int .i64 r, .int .i64 l, .int .i64 c, .int .i64 g, .int .i64 x, .int .i64 y], .string s] w fun e w' => e = .returned (.int .i64 (Lib.compareBytes nm.data.toList s.data.toList)) ∧ Held w w') := fun w => cmpF_any nm r l c g x y s w
      have HLT : Is (decide (Lib.compareBytes nm.data.toList s.data.toList < 0)) (lt nm s) := ⟨cmp_pos⟩
      have hpe : ∀ hk : (i + j) / 2 < G.length, G[(i + j) / 2].nm = nm := fun hk => by
        have h := HP.out
        rw [List.getElem?_eq_getElem hk] at h
        injection h with h; rw [h]
      have HPE := Lib.hid hpe
      clear hp hpe
      generalize Lib.compareBytes nm.data.toList s.data.toList = cv at *
      generalize hmid : (i + j) / 2 = mid at *
      have hm1 : i ≤ mid := by omega
      have hm2 : mid < j := by omega
      have HSR := HS.out
      have HMONO : ∀ k (hk : k < G.length), k ≤ mid → lt nm s = true → lt G[k].nm s = true := fun k hk hkm h => by
        have hml : mid < G.length := by rw [HL.out]; exact hm
        have e := HPE.out hml
        by_cases q : k = mid
        · subst q; rw [e]; exact h
        · have := List.pairwise_iff_getElem.1 HSR k mid hk hml (by omega)
          rw [e] at this
          exact lt_trans this h
      have HMONO2 : ∀ k (hk : k < G.length), mid ≤ k → lt nm s = false → lt G[k].nm s = false := fun k hk hkm h => by
        have hml : mid < G.length := by rw [HL.out]; exact hm
        have e := HPE.out hml
        by_cases q : k = mid
        · subst q; rw [e]; exact h
        · have h1 := List.pairwise_iff_getElem.1 HSR mid k hml hk (by omega)
          rw [e] at h1
          cases h2 : lt G[k].nm s
          · rfl
          · rw [lt_trans h1 h2] at h; cases h
      have HM1 := Lib.hid HMONO
      have HM2 := Lib.hid HMONO2
      clear HMONO HMONO2 HSR
      by_cases hcv : cv < 0
      · have ht : Is (lt nm s) true := ⟨by rw [← HLT.out]; exact decide_eq_true hcv⟩
        go_wp2_with (go_at_call 84; (with_reducible refine (HC _).out.mono ?_); rintro e w5 ⟨rfl, h5⟩)
        go_roundw
        case rel => exact ⟨mid + 1, j, by go_num, rfl, by omega, hjn, (fun k hk hki => HM1.out k hk (by omega) ht.out : ∀ k (hk : k < G.length), k < mid + 1 → lt G[k].nm s = true), L2, hh.step h5⟩
        case measure => simp [intOf]; omega
      · have ht : Is (lt nm s) false := ⟨by rw [← HLT.out]; exact decide_eq_false hcv⟩
        go_wp2_with (go_at_call 84; (with_reducible refine (HC _).out.mono ?_); rintro e w5 ⟨rfl, h5⟩)
        go_roundw
        case rel => exact ⟨i, mid, rfl, by go_num, by omega, by omega, L1, (fun k hk hki => HM2.out k hk (by omega) ht.out : ∀ k (hk : k < G.length), mid ≤ k → lt G[k].nm s = false), hh.step h5⟩
        case measure => simp [intOf]; omega
    · obtain rfl : j = i := by omega
      have HPOS : Is j (pos G s) := ⟨pos_is HS.out (by rw [HL.out]; exact hjn) L1.out L2.out⟩
      by_cases hjl : j < n
      · obtain ⟨b, off, nm, r, l, c, g, x, y, rfl, lb, hp, p0, p1, p2, p3, p4, p5, p6⟩ := plAt HG.out hh hjl
        have HH : Is (hasG G s) (same nm s) := ⟨by unfold hasG; rw [← HPOS.out, hp]⟩
        have HC : ∀ w, Hid (Calls Try.prog 84 #[.agg #[.string nm, .int .i64 r, .int .i64 l, .int .i64 c, .int .i64 g, .int .i64 x, .int .i64 y], .string s] w fun e w' => e = .returned (.int .i64 (Lib.compareBytes nm.data.toList s.data.toList)) ∧ Held w w') := fun w => cmpF_any nm r l c g x y s w
        have HZ : Is (decide (Lib.compareBytes nm.data.toList s.data.toList = 0)) (same nm s) := ⟨cmp_zero⟩
        clear hp L1 L2
        generalize Lib.compareBytes nm.data.toList s.data.toList = cv at *
        have hq : (cv == 0) = decide (cv = 0) := by rw [Bool.eq_iff_iff]; simp
        have HQ := Lib.hid hq
        clear hq
        go_wp2_with (go_at_call 84; (with_reducible refine (HC _).out.mono ?_); rintro e w5 ⟨rfl, h5⟩)
        go_ret2
        refine ⟨?_, hh.step h5⟩
        rw [← HPOS.out, HH.out, ← HZ.out]
        simp
        exact HQ.out
      · have HH : Is (hasG G s) false := ⟨by unfold hasG; rw [← HPOS.out, List.getElem?_eq_none (by rw [HL.out]; omega)]⟩
        have hd : decide (j < n) = false := decide_eq_false hjl
        clear L1 L2
        go_wp2
        go_ret2
        exact ⟨by rw [← HPOS.out, HH.out]; rfl, hh⟩
theorem find_any (HA : Option Addr) (hn hc : Nat) (GA : Option Addr) (gn gc : Nat) (G : List Pl) (s : ByteArray) (w : World) (hG : Sl 7 plC w GA gn G) (hs : Srt G) (hgn : (gn : Int) ≤ 1000) :
    Calls Try.prog 69 #[.agg #[.slice HA hn hc, .slice GA gn gc], .string s] w (FindTo G s w) := by
  go_enter Try.func69, Try.ntmps69
  go_wp2_with (go_at_call 83; refine (search_any _ _ _ G s _ (hG.held ((Held.refl w).alloc _)) hs hgn).mono ?_; rintro e w' ⟨rfl, h1⟩)
  go_ret2
  exact ⟨rfl, ((Held.refl w).alloc _).step h1⟩
end Jn
end Go.Proofs.Ytmmnanmegdflgaa
