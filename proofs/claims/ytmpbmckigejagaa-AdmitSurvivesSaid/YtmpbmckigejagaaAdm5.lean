/-
  Contracts: On of admission and of its reference hands back the demands on a host, in a slice of its own.
-/
import Derived.Test.YtmpbmckigejagaaLaw39b
import Derived.Test.YtmpbmckigejagaaAdPl
namespace Go.Proofs.Ytmpbmckigejagaa
open Go.RowKit
set_option linter.unusedVariables false
set_option maxRecDepth 100000
namespace Law39
open Ad Adm
/-- The slice value '.slice A n _' holds the placements L. -/
def Ps (w : World) (A : Option Addr) (n : Nat) (L : List Pl) : Prop :=
  L.length = n ∧ (n = 0 ∨ ∃ b off, A = some ⟨b, off, none⟩ ∧ ∀ k (h : k < L.length), w.cell? ⟨b, off + k * 7, none⟩ = some (.string L[k].nm) ∧ w.cell? ⟨b, off + k * 7 + 1, none⟩ = some (.int .i64 L[k].d.r) ∧
    w.cell? ⟨b, off + k * 7 + 2, none⟩ = some (.int .i64 L[k].d.l) ∧ w.cell? ⟨b, off + k * 7 + 3, none⟩ = some (.int .i64 L[k].d.c) ∧ w.cell? ⟨b, off + k * 7 + 4, none⟩ = some (.int .i64 L[k].d.g) ∧
    w.cell? ⟨b, off + k * 7 + 5, none⟩ = some (.int .i64 L[k].a) ∧ w.cell? ⟨b, off + k * 7 + 6, none⟩ = some (.int .i64 L[k].b))
theorem Ps.held {w a : World} {A : Option Addr} {n : Nat} {L : List Pl} (h : Ps w A n L) (ha : Held w a) : Ps a A n L :=
  ⟨h.1, h.2.imp id fun ⟨b, off, e, hc⟩ => ⟨b, off, e, fun k hk => ⟨ha.cell (hc k hk).1, ha.cell (hc k hk).2.1, ha.cell (hc k hk).2.2.1, ha.cell (hc k hk).2.2.2.1, ha.cell (hc k hk).2.2.2.2.1, ha.cell (hc k hk).2.2.2.2.2.1, ha.cell (hc k hk).2.2.2.2.2.2⟩⟩⟩
theorem Ps.at_ {w a : World} {A : Option Addr} {n : Nat} {L : List Pl} (h : Ps w A n L) (ha : Held w a) {k : Nat} (hk : k < n) : ∃ b off nm r l c g x y, A = some ⟨b, off, none⟩ ∧ L[k]? = some ⟨nm, ⟨r, l, c, g⟩, x, y⟩ ∧
    a.cell? ⟨b, off + k * 7, none⟩ = some (.string nm) ∧ a.cell? ⟨b, off + k * 7 + 1, none⟩ = some (.int .i64 r) ∧ a.cell? ⟨b, off + k * 7 + 2, none⟩ = some (.int .i64 l) ∧ a.cell? ⟨b, off + k * 7 + 3, none⟩ = some (.int .i64 c) ∧
    a.cell? ⟨b, off + k * 7 + 4, none⟩ = some (.int .i64 g) ∧ a.cell? ⟨b, off + k * 7 + 5, none⟩ = some (.int .i64 x) ∧ a.cell? ⟨b, off + k * 7 + 6, none⟩ = some (.int .i64 y) := by
  rcases h.2 with h0 | ⟨b, off, e, hc⟩
  · omega
  · have hl : k < L.length := by rw [h.1]; exact hk
    exact ⟨b, off, L[k].nm, L[k].d.r, L[k].d.l, L[k].d.c, L[k].d.g, L[k].a, L[k].b, e, List.getElem?_eq_getElem hl, ha.cell (hc k hl).1, ha.cell (hc k hl).2.1, ha.cell (hc k hl).2.2.1, ha.cell (hc k hl).2.2.2.1, ha.cell (hc k hl).2.2.2.2.1, ha.cell (hc k hl).2.2.2.2.2.1, ha.cell (hc k hl).2.2.2.2.2.2⟩
/-- What the inner loop has gathered of one guest. -/
def part (nm : ByteArray) (d : Dem) (x y h : Int) (j : Nat) : List Dem := (if 0 < j ∧ x = h then [d] else []) ++ (if 1 < j ∧ y = h then [d] else [])
theorem box_cell {w : World} {q : Nat} {cs : Array Value} {t : TypeId} (h : w.heap[q]? = some (.cells cs t)) (j : Nat) {v : Value} (hv : cs[j]? = some v) : w.cell? ⟨q, j, none⟩ = some v := by simp [World.cell?, h, hv]
theorem box_new (w : World) (o : Obj) : (w.alloc o).heap[w.heap.size]? = some o := by
  show (w.heap.push o)[w.heap.size]? = _
  rw [Array.getElem?_push, if_pos rfl]
theorem box_app {w w1 : World} {base : Nat} {v : Value} {e : TypeId} {size n : Nat} {xs : List Value} {o : Obj} {q : Nat} {cs : Array Value} {t : TypeId} (hown : w.ownsRow base e size v n xs) (hq : w.heap[q]? = some (.cells cs t)) (ht : t ≠ e)
    (hg : (w.alloc o).grownBy w1 v.ownBlock) : w1.heap[q]? = some (.cells cs t) := by
  have hl : q < w.heap.size := by
    rcases Nat.lt_or_ge q w.heap.size with hl | hl
    · exact hl
    · rw [Array.getElem?_eq_none hl] at hq; cases hq
  rw [hg.block q (by simp; omega) ?_]
  · show (w.heap.push o)[q]? = _
    rw [Array.getElem?_push, if_neg (by omega)]; exact hq
  · intro e1
    rcases hown.2 with ⟨rfl, _⟩ | ⟨g, cap, cur, rfl, _, hh, _⟩
    · simp [Value.ownBlock] at e1
    · simp [Value.ownBlock] at e1
      subst e1
      rw [hq] at hh
      simp at hh
      exact ht hh.2
theorem part_len (nm : ByteArray) (d : Dem) (x y h : Int) (j : Nat) : (part nm d x y h j).length ≤ 2 := by unfold part; split <;> split <;> simp
theorem on_any (A : Option Addr) (len cap : Nat) (L : List Pl) (h : Int) (w : World) (hp : Ps w A len L) (hl : (len : Int) ≤ 1000) :
    Calls Try.prog 15 #[.slice A len cap, .int .i64 h] w (MakesDs (on L h) w) := by
  have HP := Lib.hid hp
  have HL := Lib.hid hp.1
  clear hp
  go_enter Try.func15, Try.ntmps15
  go_wp2
  go_loopw [5, 12] (fun v i wr => ∃ k : Nat, k ≤ len ∧ i = .int .i64 k ∧ wr.ownsRow w.heap.size 30 4 v (on (L.take k) h).length (cells (on (L.take k) h)) ∧ Held w wr) (fun _ i _ => len - (intOf i).toNat)
  case atStart => exact ⟨0, Nat.zero_le _, rfl, World.ownsRow_nil _ _ _ _, Held.refl _⟩
  case round =>
    obtain ⟨k, hk, rfl, hown, hh⟩ := hrel
    have HO := Lib.hid hown
    have hll : (on (L.take k) h).length ≤ 2000 := by have := on_len (L.take k) h; rw [List.length_take, HL.out] at this; omega
    clear hown
    by_cases hlt : k < len
    · obtain ⟨b, off, nm, r, l, c, g, x, y, rfl, hn, c0, c1, c2, c3, c4, c5, c6⟩ := HP.out.at_ hh hlt
      have HS := Lib.hid (on_snoc L k _ h hn)
      clear hn
      go_wp2
      go_loopw [5, 18] (fun v i w2 => ∃ j : Nat, j ≤ 2 ∧ i = .int .i64 j ∧ w2.ownsRow w.heap.size 30 4 v (on (L.take k) h ++ part nm ⟨r, l, c, g⟩ x y h j).length (cells (on (L.take k) h ++ part nm ⟨r, l, c, g⟩ x y h j)) ∧ Held w w2 ∧
          w2.heap[wr.heap.size]? = some (.cells #[.string nm, .int .i64 r, .int .i64 l, .int .i64 c, .int .i64 g, .int .i64 x, .int .i64 y] 48)) (fun _ i _ => 2 - (intOf i).toNat)
      case atStart => exact ⟨0, by omega, rfl, by simpa [part] using HO.out.alloc _, Below.alloc hh hh.size _, box_new _ _⟩
      case round =>
        obtain ⟨j, hj, rfl, hown2, hh2, hbox⟩ := hrel
        have d1 := box_cell hbox 1 rfl
        have d2 := box_cell hbox 2 rfl
        have d3 := box_cell hbox 3 rfl
        have d4 := box_cell hbox 4 rfl
        have HB := Lib.hid hbox
        clear hbox
        have HO2 := Lib.hid hown2
        clear hown2
        have i0 : ∀ w : World, (Instr.index 46 (.agg #[.int .i64 x, .int .i64 y]) (.int .i64 0)).run Try.prog w = .ok (.int .i64 x) w := fun _ => by kernel_rfl
        have i1 : ∀ w : World, (Instr.index 46 (.agg #[.int .i64 x, .int .i64 y]) (.int .i64 1)).run Try.prog w = .ok (.int .i64 y) w := fun _ => by kernel_rfl
        have hl2 : (on (L.take k) h ++ part nm ⟨r, l, c, g⟩ x y h j).length ≤ 2002 := by rw [List.length_append]; have := part_len nm ⟨r, l, c, g⟩ x y h j; omega
        have hlw : w.heap.size ≤ wr.heap.size := hh2.le
        obtain rfl | rfl | rfl : j = 0 ∨ j = 1 ∨ j = 2 := by omega
        · by_cases hx : x = h
          · subst hx
            go_wp2_with (first | (at_builtin; refine app_dem _ rfl _ _ rfl w.heap.size _ (on (L.take k) x ++ part nm ⟨r, l, c, g⟩ x y x 0) ⟨r, l, c, g⟩ wr.heap.size rfl (HO2.out.alloc _) rfl (by simp) (by simp) (by simp) (by simp) (by omega) (by have := hh2.le; simp; omega) ?_; intro v' w3 hown1 hg1 _))
            have h3 := box_app HO2.out HB.out (by decide) hg1
            go_roundw
            case rel => exact ⟨1, by omega, by go_num, by simpa [part] using hown1, held_app hh2 HO2.out hg1, h3⟩
            case measure => simp [intOf]
          · go_wp2
            go_roundw
            case rel => exact ⟨1, by omega, by go_num, by simpa [part, hx] using HO2.out, hh2, HB.out⟩
            case measure => simp [intOf]
        · by_cases hx : y = h
          · subst hx
            go_wp2_with (first | (at_builtin; refine app_dem _ rfl _ _ rfl w.heap.size _ (on (L.take k) y ++ part nm ⟨r, l, c, g⟩ x y y 1) ⟨r, l, c, g⟩ wr.heap.size rfl (HO2.out.alloc _) rfl (by simp) (by simp) (by simp) (by simp) (by omega) (by have := hh2.le; simp; omega) ?_; intro v' w3 hown1 hg1 _))
            have h3 := box_app HO2.out HB.out (by decide) hg1
            go_roundw
            case rel => exact ⟨2, by omega, by go_num, by simpa [part] using hown1, held_app hh2 HO2.out hg1, h3⟩
            case measure => simp [intOf]
          · go_wp2
            go_roundw
            case rel => exact ⟨2, by omega, by go_num, by simpa [part, hx] using HO2.out, hh2, HB.out⟩
            case measure => simp [intOf]
        · go_wp2
          go_roundw
          case rel => exact ⟨k + 1, by omega, by go_num, by rw [HS.out]; simpa [part, onOne] using HO2.out, hh2⟩
          case measure => simp [intOf]; omega
    · obtain rfl : k = len := by omega
      have HT : Hid (L.take k = L) := show _ = _ by rw [← HL.out, List.take_length]
      go_wp2
      go_ret
      exact ⟨_, rfl, by have := HO.out; rw [HT.out] at this; exact this, hh⟩
end Law39
end Go.Proofs.Ytmpbmckigejagaa
