/-
  Contracts: the law package of chapter 39 makes lists of demands; its check of fixed results returns true.
-/
import Derived.Test.YtmpbmckigejagaaLaw39a
import Derived.Test.YtmpbmckigejagaaRw
namespace Go.Proofs.Ytmpbmckigejagaa
open Go.RowKit
set_option linter.unusedVariables false
set_option maxRecDepth 100000
namespace Law39
open Ad Adm
/-- The call hands back a slice of its own, the demands L. -/
def MakesDs (L : List Dem) (w : World) (e : Ending) (w' : World) : Prop := ∃ v, e = .returned v ∧ w'.ownsRow w.heap.size 30 4 v L.length (cells L) ∧ Held w w'
theorem held_app {W w w1 : World} {v : Value} {e : TypeId} {size n : Nat} {xs : List Value} {o : Obj} (hb : Held W w) (hown : w.ownsRow W.heap.size e size v n xs) (hg : (w.alloc o).grownBy w1 v.ownBlock) : Held W w1 := by
  refine (Below.alloc hb hb.size o).grown hg (by have := hb.size; simp; omega) ?_
  intro k hk
  obtain ⟨_, h⟩ := hown
  rcases h with ⟨rfl, _⟩ | ⟨g, cap, cur, rfl, hg', _⟩
  · simp [Value.ownBlock] at hk
  · simp [Value.ownBlock] at hk; omega
theorem own_held {W w w1 : World} {v : Value} {e : TypeId} {size n : Nat} {xs : List Value} (h : w.ownsRow W.heap.size e size v n xs) (hw : Held w w1) : w1.ownsRow W.heap.size e size v n xs := by
  refine ⟨h.1, ?_⟩
  rcases h.2 with h2 | ⟨g, cap, cur, hv, hb, hh, r⟩
  · exact .inl h2
  · refine .inr ⟨g, cap, cur, hv, hb, ?_, r⟩
    rw [hw.block g ?_]; exact hh
    rcases Nat.lt_or_ge g w.heap.size with hl | hl
    · exact hl
    · rw [Array.getElem?_eq_none hl] at hh; cases hh
theorem map_snoc (L : List Int) (k : Nat) (n : Int) (h : L[k]? = some n) : (L.take (k + 1)).map dem = (L.take k).map dem ++ [dem n] := by
  obtain ⟨hk, rfl⟩ := List.getElem?_eq_some_iff.1 h
  rw [List.take_succ_eq_append_getElem hk, List.map_append]; rfl
theorem demands_make (A : Option Addr) (len cap : Nat) (L : List Int) (w : World) (hlen : L.length = len) (hl : (len : Int) ≤ 1000) (hc : len = 0 ∨ ∃ b off, A = some ⟨b, off, none⟩ ∧ b < w.heap.size ∧ ∀ i (h : i < L.length), w.cell? ⟨b, off + i, none⟩ = some (.int .i64 L[i])) :
    Calls Try.prog 9 #[.slice A len cap] w (MakesDs (L.map dem) w) := by
  have HC := Lib.hid hc
  have HL := Lib.hid hlen
  clear hc hlen
  go_enter Try.func9, Try.ntmps9
  go_wp2
  go_loopw [3, 4] (fun v i wr => ∃ k : Nat, k ≤ len ∧ i = .int .i64 k ∧ wr.ownsRow w.heap.size 30 4 v ((L.take k).map dem).length (cells ((L.take k).map dem)) ∧ Held w wr) (fun _ i _ => len - (intOf i).toNat)
  case atStart => exact ⟨0, Nat.zero_le _, rfl, World.ownsRow_nil _ _ _ _, Held.refl _⟩
  case round =>
    obtain ⟨k, hk, rfl, hown, hh⟩ := hrel
    have HO := Lib.hid hown
    have hll : ((L.take k).map dem).length ≤ 1000 := by rw [List.length_map, List.length_take, HL.out]; omega
    clear hown
    by_cases hlt : k < len
    · obtain ⟨b, off, rfl, hb, hcc⟩ := HC.out.resolve_left (by omega)
      have hkL : k < L.length := by rw [HL.out]; exact hlt
      obtain ⟨n, hn⟩ : ∃ n, L[k] = n := ⟨_, rfl⟩
      have hcell : wr.cell? ⟨b, off + k, none⟩ = some (.int .i64 n) := by rw [← hn]; exact hh.cell (hcc k hkL)
      have HS : Hid ((L.take (k + 1)).map dem = (L.take k).map dem ++ [dem n]) := map_snoc L k n (by rw [← hn]; exact List.getElem?_eq_getElem hkL)
      clear hn hcc hkL
      go_wp2_with (first | (go_at_call 11; refine (demand_any _ _).mono ?_; rintro e w1 ⟨rfl, h1⟩) | (at_builtin; refine app_dem _ rfl _ _ rfl w.heap.size _ ((L.take k).map dem) (dem n) w1.heap.size rfl ((own_held HO.out h1).alloc _) rfl (by simp) (by simp) (by simp) (by simp) (by omega) (by have := hh.le; have := h1.le; simp; omega) ?_; intro v' w2 hown1 hg1 _))
      go_roundw
      case rel => exact ⟨k + 1, by omega, by go_num, by rw [HS.out]; exact hown1, held_app (hh.step h1) (own_held HO.out h1) hg1⟩
      case measure => simp [intOf]; omega
    · obtain rfl : k = len := by omega
      have HT : Hid (L.take k = L) := show _ = _ by rw [← HL.out, List.take_length]
      go_wp2
      go_ret
      exact ⟨_, rfl, by have := HO.out; rw [HT.out] at this; exact this, hh⟩
end Law39
end Go.Proofs.Ytmpbmckigejagaa
