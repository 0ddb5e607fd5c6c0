/-
  Contracts: the law package of chapter 39 makes demands out of numbers; its check of fixed results returns true.
-/
import Derived.Test.YtmpbmckigejagaaAdm4
import Derived.Test.YtmpbmckigejagaaMk
namespace Go.Proofs.Ytmpbmckigejagaa
open Go.RowKit
set_option linter.unusedVariables false
set_option maxRecDepth 100000
namespace Law39
open Ad Adm
/-- The demand of a number. -/
def dem (n : Int) : Dem :=
  let v := Mk.mix n 51
  { r := ((v % 8 : Nat) : Int), l := ((v % 8 + v / 256 % 8 : Nat) : Int), c := ((v / 8 % 8 : Nat) : Int), g := ((v / 64 % 4 : Nat) : Int) }
theorem dem_vd (n : Int) : vd (dem n) = true := by
  rw [vd_iff, units_iff, units_iff]
  simp only [dem]
  omega
theorem demand_any (n : Int) (w : World) :
    Calls Try.prog 11 #[.int .i64 n] w fun e w' => e = .returned (.agg #[.int .i64 (dem n).r, .int .i64 (dem n).l, .int .i64 (dem n).c, .int .i64 (dem n).g]) ∧ Held w w' := by
  obtain ⟨v, hv⟩ : ∃ v, Mk.mix n 51 = v := ⟨_, rfl⟩
  have hb := Mk.mix_lt n 51
  rw [hv] at hb
  have HV := Lib.hid hv
  have hb' : (v : Int) ≤ 9223372036854775807 := by omega
  have a1 : bits .and .i64 (v : Int) 7 = ((v % 8 : Nat) : Int) := by rw [show (7 : Int) = ((7 : Nat) : Int) from rfl, Mk.and_i64 v 7 hb (by omega), nat_mask3]
  have a2 : bits .and .i64 ((v : Int) / 8) 7 = ((v / 8 % 8 : Nat) : Int) := by
    rw [show (7 : Int) = ((7 : Nat) : Int) from rfl, show (v : Int) / 8 = ((v / 8 : Nat) : Int) by omega, Mk.and_i64 _ 7 (by omega) (by omega), nat_mask3]
  have a3 : bits .and .i64 ((v : Int) / 64) 3 = ((v / 64 % 4 : Nat) : Int) := by
    rw [show (3 : Int) = ((3 : Nat) : Int) from rfl, show (v : Int) / 64 = ((v / 64 : Nat) : Int) by omega, Mk.and_i64 _ 3 (by omega) (by omega), nat_mask2]
  have a4 : bits .and .i64 ((v : Int) / 256) 7 = ((v / 256 % 8 : Nat) : Int) := by
    rw [show (7 : Int) = ((7 : Nat) : Int) from rfl, show (v : Int) / 256 = ((v / 256 : Nat) : Int) by omega, Mk.and_i64 _ 7 (by omega) (by omega), nat_mask3]
  have HD : Hid (dem n = ⟨((v % 8 : Nat) : Int), ((v % 8 + v / 256 % 8 : Nat) : Int), ((v / 8 % 8 : Nat) : Int), ((v / 64 % 4 : Nat) : Int)⟩) := show _ = _ by unfold dem; rw [hv]
  clear hv
  go_enter Try.func11, Try.ntmps11
  go_wp2_with (go_at_call 25; refine (Mk.mix_any _ _ _).mono ?_; rintro e w' ⟨rfl, rfl⟩; rw [HV.out])
  refine bodyPost_ret (v := .agg #[.int .i64 (dem n).r, .int .i64 (dem n).l, .int .i64 (dem n).c, .int .i64 (dem n).g]) (by rw [HD.out]; simp [results, Try.results11, go_sem]) rfl ⟨rfl, ((Held.refl _).alloc _).alloc _⟩
theorem info_dem : (Try.prog.info? 30).map (fun i => (i.zero, i.size, i.bytes)) = some (some (.agg #[.int .i64 0, .int .i64 0, .int .i64 0, .int .i64 0]), 4, 32) := by kernel_rfl
theorem cells_len (L : List Dem) : (cells L).length = L.length * 4 := by
  unfold cells; induction L with
  | nil => rfl
  | cons d L ih => rw [List.flatMap_cons, List.length_append, ih, List.length_cons]; simp; omega
theorem cells_snoc (L : List Dem) (d : Dem) : cells (L ++ [d]) = cells L ++ [.int .i64 d.r, .int .i64 d.l, .int .i64 d.c, .int .i64 d.g] := by
  unfold cells; rw [List.flatMap_append, List.flatMap_singleton]
/-- Append of one demand to a slice that the call itself made. -/
theorem app_dem (w : World) {ops : Array Oper} {rest : List Oper} {o : Oper} {a : Act} {Q : Exit → Act → World → Prop} (hgd : o.guard = none) (s x : Operand)
    (ho : o.op = .call { callee := .builtin .append, args := #[s, x], argTypes := #[27, 27] }) (base : Nat) (v : Value) (L : List Dem) (d : Dem) (B : Nat)
    (hs : a.eval s = v) (hown : w.ownsRow base 30 4 v L.length (cells L)) (hx : a.eval x = .slice (some ⟨B, 0, none⟩) 1 1)
    (h0 : w.cell? ⟨B, 0, none⟩ = some (.int .i64 d.r)) (h1 : w.cell? ⟨B, 1, none⟩ = some (.int .i64 d.l)) (h2 : w.cell? ⟨B, 2, none⟩ = some (.int .i64 d.c)) (h3 : w.cell? ⟨B, 3, none⟩ = some (.int .i64 d.g))
    (hb : (L.length + 1) * 32 ≤ 140737488355328) (hbase : base ≤ w.heap.size)
    (h : ∀ v' w', w'.ownsRow base 30 4 v' (L ++ [d]).length (cells (L ++ [d])) → w.grownBy w' v.ownBlock → (v' = .slice none 0 0 ↔ v = .slice none 0 0 ∧ 1 = 0) → wpList Try.prog ops Q rest (a.put o.dst v') w') :
    wpList Try.prog ops Q (o :: rest) a w := by
  obtain ⟨i0, hi, hz0, hz1, hz2⟩ := info_parts info_dem
  refine wpList_append_own w hgd s x 27 ho base 30 i0 (.agg #[.int .i64 0, .int .i64 0, .int .i64 0, .int .i64 0]) 4 32 Try.underlying27 hi hz0 hz1 hz2 rfl (by decide) v L.length (cells L) hs hown ⟨B, 0, none⟩ 1 1
    [.int .i64 d.r, .int .i64 d.l, .int .i64 d.c, .int .i64 d.g] hx rfl ?_ ?_ (by unfold maxLen; omega) (by omega) hbase ?_
  · intro j u hj
    match j, hj with
    | 0, hj => simp at hj; subst hj; exact h0
    | 1, hj => simp at hj; subst hj; exact h1
    | 2, hj => simp at hj; subst hj; exact h2
    | 3, hj => simp at hj; subst hj; exact h3
    | j + 4, hj => simp at hj
  · intro u hu; simp at hu; rcases hu with rfl | rfl | rfl | rfl <;> rfl
  · intro v' w' g1 g2 g3
    refine h v' w' ?_ g2 g3
    rw [cells_snoc, List.length_append]; exact g1
/-- A row of the call's own reads as demands. -/
theorem ds_of_own {w : World} {base : Nat} {A : Option Addr} {n cap : Nat} {L : List Dem} (h : w.ownsRow base 30 4 (.slice A n cap) L.length (cells L)) : Ds w A L.length L ∧ n = L.length ∧ L.length ≤ cap := by
  obtain ⟨hl, h⟩ := h
  rcases h with ⟨he, h0⟩ | ⟨g, cp, cur, he, hb, hh, hn, hm, hc, ht⟩
  · injection he with e1 e2 e3
    subst e2
    exact ⟨⟨rfl, .inl h0⟩, h0.symm, by omega⟩
  · injection he with e1 e2 e3
    subst e1 e2 e3
    refine ⟨⟨rfl, .inr ⟨g, 0, rfl, fun k hk => ?_⟩⟩, rfl, hn⟩
    have hcell : ∀ j (hj : j < (cells L).length), w.cell? ⟨g, j, none⟩ = some (cells L)[j] := by
      intro j hj
      have h1 : (cur.toList.take (L.length * 4))[j]? = some (cells L)[j] := by rw [ht]; exact List.getElem?_eq_getElem hj
      rw [cells_len] at hj
      rw [List.getElem?_take, if_pos hj] at h1
      simp only [World.cell?, hh]
      simpa using h1
    have hat : ∀ i (hi : i < 4), (cells L)[k * 4 + i]? = [Value.int .i64 L[k].r, .int .i64 L[k].l, .int .i64 L[k].c, .int .i64 L[k].g][i]? := by
      intro i hi
      have e : cells L = cells (L.take k) ++ (cells [L[k]] ++ cells (L.drop (k + 1))) := by
        have : L = L.take k ++ ([L[k]] ++ L.drop (k + 1)) := by simp
        exact (congrArg cells this).trans (by unfold cells; rw [List.flatMap_append, List.flatMap_append])
      have hlk : (cells (L.take k)).length = k * 4 := by rw [cells_len, List.length_take, Nat.min_eq_left (by omega)]
      rw [e, List.getElem?_append_right (by omega), hlk, Nat.add_sub_cancel_left, List.getElem?_append_left (by rw [cells_len]; simpa using hi)]
      rfl
    have fin : ∀ i (hi : i < 4) (u : Value), [Value.int .i64 L[k].r, .int .i64 L[k].l, .int .i64 L[k].c, .int .i64 L[k].g][i]? = some u → w.cell? ⟨g, k * 4 + i, none⟩ = some u := by
      intro i hi u hu
      have hj : k * 4 + i < (cells L).length := by rw [cells_len]; omega
      have h1 := hat i hi
      rw [List.getElem?_eq_getElem hj, hu] at h1
      rw [hcell _ hj]; exact h1
    have z : ∀ j, 0 + k * 4 + j = k * 4 + j := by intro j; omega
    refine ⟨?_, ?_, ?_, ?_⟩
    · have := fin 0 (by omega) _ rfl; simpa using this
    · have := fin 1 (by omega) _ rfl; simpa using this
    · have := fin 2 (by omega) _ rfl; simpa using this
    · have := fin 3 (by omega) _ rfl; simpa using this
end Law39
end Go.Proofs.Ytmpbmckigejagaa
