/-
  Contracts: how a snapshot tree lies in memory; exists, children, Find (chapter 41).
-/
import Derived.Test.YtncgihbnfmpdbaaProg
import Derived.Test.YtncgihbnfmpdbaaSnU
import Derived.Test.YtncgihbnfmpdbaaMem5
import Derived.Test.YtncgihbnfmpdbaaBx
import Derived.WalkSpells
import Derived.WalkLawsBesides
import Derived.BigQuiet
import Derived.Outline
import Derived.Deep.RegionHeld3
import Derived.Lib.QuietBelow
set_option linter.unusedVariables false
set_option linter.unusedSimpArgs false
set_option maxRecDepth 100000
namespace Go.Proofs.Ytncgihbnfmpdbaa
open Go.RowKit
namespace Sn
def stC (s : ByteArray) : List Value := [.string s]
theorem stC_len (x : ByteArray) : (stC x).length = 1 := rfl
theorem stC_one (x : ByteArray) : ∀ u ∈ stC x, u.oneCell' = true := by intro u hu; simp [stC] at hu; subst hu; rfl
/-- A node in memory is the node. -/
structure NrOk (w : World) (r : Nr) (x : Nd) : Prop where
  nm : r.nm = x.nm
  par : r.par = x.par
  op : r.op = x.op
  ds : Sl 2 dlC w r.A r.n x.ds
  nil : r.A = none → r.n = 0
/-- A tree in memory: the two slices. -/
structure TrR (w : World) (Ab : Option Addr) (nb : Nat) (An : Option Addr) (nn : Nat) (T : Tr) : Prop where
  bs : Sl 1 stC w Ab nb T.base
  bnil : Ab = none → nb = 0
  ns : ∃ R : List Nr, Sl 4 nrC w An nn R ∧ (An = none → nn = 0) ∧ R.length = T.nodes.length ∧ ∀ (i : Nat) (r : Nr) (x : Nd), R[i]? = some r → T.nodes[i]? = some x → NrOk w r x
theorem NrOk.held {w a : World} {r : Nr} {x : Nd} (h : NrOk w r x) (q : Held w a) : NrOk a r x := ⟨h.nm, h.par, h.op, h.ds.held q, h.nil⟩
theorem TrR.held {w a : World} {Ab : Option Addr} {nb : Nat} {An : Option Addr} {nn : Nat} {T : Tr} (h : TrR w Ab nb An nn T) (q : Held w a) : TrR a Ab nb An nn T := by
  obtain ⟨R, h1, h2, h3, h4⟩ := h.ns
  exact ⟨h.bs.held q, h.bnil, R, h1.held q, h2, h3, fun i r x hr hx => (h4 i r x hr hx).held q⟩
theorem TrR.nn {w : World} {Ab : Option Addr} {nb : Nat} {An : Option Addr} {nn : Nat} {T : Tr} (h : TrR w Ab nb An nn T) : T.nodes.length = nn := by
  obtain ⟨R, h1, _, h3, _⟩ := h.ns
  rw [← h3]; exact h1.1
/-- A node of a tree: its cells, its deltas. -/
theorem TrR.at_ {w a : World} {Ab : Option Addr} {nb : Nat} {An : Option Addr} {nn : Nat} {T : Tr} (h : TrR w Ab nb An nn T) (q : Held w a) {k : Nat} (hk : k < nn) :
    ∃ (b off : Nat) (x : Nd) (A : Option Addr) (n cap : Nat), An = some ⟨b, off, none⟩ ∧ b < w.heap.size ∧ T.nodes[k]? = some x ∧ a.cell? ⟨b, off + k * 4, none⟩ = some (.string x.nm) ∧ a.cell? ⟨b, off + k * 4 + 1, none⟩ = some (.int .i64 x.par) ∧ a.cell? ⟨b, off + k * 4 + 2, none⟩ = some (.bool x.op) ∧
      a.cell? ⟨b, off + k * 4 + 3, none⟩ = some (.slice A n cap) ∧ Sl 2 dlC w A n x.ds ∧ (A = none → n = 0) := by
  obtain ⟨R, h1, h2, h3, h4⟩ := h.ns
  obtain ⟨b, off, r, e, hb, hr, hc⟩ := Sl.at_ h1 q hk
  obtain ⟨x, hx⟩ : ∃ x, T.nodes[k]? = some x := ⟨_, List.getElem?_eq_getElem (by rw [h.nn]; exact hk)⟩
  have ho := h4 k r x hr hx
  refine ⟨b, off, x, r.A, r.n, r.cap, e, hb, hx, ?_, ?_, ?_, ?_, ho.ds, ho.nil⟩
  · have := hc 0 _ rfl; rw [Nat.add_zero, ho.nm] at this; exact this
  · have := hc 1 _ rfl; rw [ho.par] at this; exact this
  · have := hc 2 _ rfl; rw [ho.op] at this; exact this
  · exact hc 3 _ rfl
theorem ret_b {a b : Bool} (h : a = b) : Ending.returned (.bool a) = .returned (.bool b) := by rw [h]
theorem nm_live (x : Nd) : (!x.nm.toList.isEmpty) = live x := by
  unfold live
  rw [ByteArray.toList_eq]
  have : x.nm.size = x.nm.data.toList.length := (Array.length_toList (xs := x.nm.data)).symm
  rw [this]
  cases x.nm.data.toList with
  | nil => rfl
  | cons a l => rfl
set_option maxHeartbeats 2000000 in
theorem exists_any (Ab : Option Addr) (nb cb : Nat) (An : Option Addr) (nn cn : Nat) (T : Tr) (k : Int) (w : World) (h : TrR w Ab nb An nn T) :
    Calls Try.prog 39 #[.agg #[.slice Ab nb cb, .slice An nn cn], .int .i64 k] w fun e w' => e = .returned (.bool (ex T.nodes k)) ∧ Held w w' := by
  have HT := Lib.hid h
  have M0 := Lib.hid ((Mem.start w).alloc #[.slice Ab nb cb, .slice An nn cn] 27)
  have hnn := h.nn
  clear h
  by_cases g1 : k < 0
  · have HP : Hid (ex T.nodes k = false) := show _ = _ by unfold ex; rw [decide_eq_false (by omega)]; rfl
    go_enter Try.func39, Try.ntmps39
    go_wp2
    go_ret
    exact ⟨ret_b HP.out.symm, M0.out.held⟩
  · obtain ⟨i, rfl⟩ := Int.eq_ofNat_of_zero_le (by omega : 0 ≤ k)
    by_cases g2 : (i : Int) < nn
    · obtain ⟨b, off, x, A, n, cap, rfl, lb, hx, x0, x1, x2, x3, _⟩ := HT.out.at_ M0.out.held (k := i) (by omega)
      have HP : Hid (ex T.nodes i = live x) := show _ = _ by unfold ex; rw [show ((i : Int)).toNat = i by omega, hx]; simp
      have hl := nm_live x
      have hlb := lt_of_cell x0
      clear hx
      go_enter Try.func39, Try.ntmps39
      go_wp2
      go_ret
      exact ⟨ret_b HP.out.symm, M0.out.held⟩
    · have HP : Hid (ex T.nodes i = false) := show _ = _ by unfold ex; rw [show ((i : Int)).toNat = i by omega, List.getElem?_eq_none (by omega)]; simp
      go_enter Try.func39, Try.ntmps39
      go_wp2
      go_ret
      exact ⟨ret_b HP.out.symm, M0.out.held⟩
def inC (x : Int) : List Value := [.int .i64 x]
theorem inC_len (x : Int) : (inC x).length = 1 := rfl
theorem inC_one (x : Int) : ∀ u ∈ inC x, u.oneCell' = true := by intro u hu; simp [inC] at hu; subst hu; rfl
theorem info_int : (Try.prog.info? 3).map (fun i => (i.zero, i.size, i.bytes)) = some (some (.int .i64 0), 1, 8) := by kernel_rfl
/-- A list handed back in a slice of the call's own. -/
def Mks {α : Type} (e : TypeId) (s : Nat) (f : α → List Value) (L : List α) (w : World) (r : Ending) (w' : World) : Prop := ∃ A cap, r = .returned (.slice A L.length cap) ∧ L.length ≤ cap ∧ Own e s f w.heap.size w' (.slice A L.length cap) L ∧ Held w w'
theorem Mks.mk {α : Type} {e : TypeId} {s : Nat} {f : α → List Value} {L : List α} {w w' : World} {v : Value} (ho : Own e s f w.heap.size w' v L) (hh : Held w w') : Mks e s f L w (.returned v) w' := by
  obtain ⟨A, cap, rfl, hc, _⟩ := ho.shape
  exact ⟨A, cap, rfl, hc, ho, hh⟩
theorem kidsTo_next {N : List Nd} {n : Int} {k : Nat} {x : Nd} (hx : N[k]? = some x) : kidsTo N n (k + 1) = kidsTo N n k ++ (if isKid n x then [(k : Int)] else []) := by rw [kidsTo, hx]
theorem kidsTo_len (N : List Nd) (n : Int) : ∀ k, (kidsTo N n k).length ≤ k
  | 0 => Nat.le_refl _
  | k + 1 => by
    have := kidsTo_len N n k
    rw [kidsTo, List.length_append]
    split
    · split <;> simp <;> omega
    · simp; omega
set_option maxHeartbeats 2000000 in
theorem children_any (Ab : Option Addr) (nb cb : Nat) (An : Option Addr) (nn cn : Nat) (T : Tr) (p : Int) (w : World) (h : TrR w Ab nb An nn T) (hn : (nn : Int) ≤ 1000000) :
    Calls Try.prog 42 #[.agg #[.slice Ab nb cb, .slice An nn cn], .int .i64 p] w (Mks 3 1 inC (kids T.nodes p) w) := by
  have HT := Lib.hid h
  have HE : Hid (kids T.nodes p = kidsTo T.nodes p nn) := show _ = _ by unfold kids; rw [h.nn]
  have M0 := Lib.hid (((Mem.start w).alloc #[.slice Ab nb cb, .slice An nn cn] 27).nilRow (e := 3) (s := 1) (f := inC))
  clear h
  go_enter Try.func42, Try.ntmps42
  go_wp2
  go_loopw [5, 11] (fun v i wr => ∃ k : Nat, i = .int .i64 k ∧ k ≤ nn ∧ Mem w wr [.box w.heap.size #[.slice Ab nb cb, .slice An nn cn] 27, .row 3 1 inC w.heap.size v (kidsTo T.nodes p k)]) (fun _ i _ => nn - (intOf i).toNat)
  case atStart => exact ⟨0, rfl, Nat.zero_le _, M0.out⟩
  case round =>
    obtain ⟨k, rfl, hk, M⟩ := hrel
    have M1 := Lib.hid M
    clear M M0
    by_cases hlt : (k : Int) < nn
    · obtain ⟨b, off, x, A, n, cap, rfl, lb, hx, x0, x1, x2, x3, _⟩ := HT.out.at_ M1.out.held (k := k) (by omega)
      have HN := Lib.hid (kidsTo_next (n := p) hx)
      have hlb := lt_of_cell x0
      simp only at hlb
      have hl := nm_live x
      have M2 := Lib.hid (M1.out.alloc #[.string x.nm, .int .i64 x.par, .bool x.op, .slice A n cap] 36)
      obtain ⟨ln, hln⟩ : ∃ ln, (kidsTo T.nodes p k).length = ln := ⟨_, rfl⟩
      have hlen := kidsTo_len T.nodes p k
      rw [hln] at hlen
      have HLN := Lib.hid hln
      clear hx hln
      cases hlv : live x
      · rw [hlv] at hl
        have HS : Hid (kidsTo T.nodes p (k + 1) = kidsTo T.nodes p k) := show _ = _ by rw [HN.out]; unfold isKid; rw [hlv]; simp
        clear hlv
        go_wp2
        go_roundw
        case rel => exact ⟨k + 1, by go_num, by omega, by rw [HS.out]; exact M2.out.take 2⟩
        case measure => (simp [intOf]) <;> omega
      · rw [hlv] at hl
        by_cases hp : x.par = p
        · have HS : Hid (kidsTo T.nodes p (k + 1) = kidsTo T.nodes p k ++ [(k : Int)]) := show _ = _ by rw [HN.out]; unfold isKid; rw [hlv]; simp [hp]
          have hb : (x.par == p) = true := by simp [hp]
          clear hlv hp
          go_wp2_with (at_builtin; refine Mem.wp_app (M2.out.skip _) 1 rfl rfl _ _ _ rfl _ 8 Try.underlying22 info_int rfl (by decide) inC_len inC_one (k : Int) ⟨wr.heap.size + 1, 0, none⟩ 1 rfl rfl (cells_new _ (by simp) _ _) ln HLN.out (by omega) (by decide) ?_; intro g4 cp4 w4 M4; have M5 := Lib.hid M4; clear M4)
          go_roundw
          case rel => exact ⟨k + 1, by go_num, by omega, by rw [HS.out]; exact M5.out.take 2⟩
          case measure => (simp [intOf]) <;> omega
        · have HS : Hid (kidsTo T.nodes p (k + 1) = kidsTo T.nodes p k) := show _ = _ by rw [HN.out]; unfold isKid; simp [hp]
          have hb : (x.par == p) = false := by simp [hp]
          clear hlv hp
          go_wp2
          go_roundw
          case rel => exact ⟨k + 1, by go_num, by omega, by rw [HS.out]; exact M2.out.take 2⟩
          case measure => (simp [intOf]) <;> omega
    · obtain rfl : nn = k := by omega
      rw [← HE.out] at M1
      go_wp2
      go_ret
      exact Mks.mk (M1.out.row 1 rfl) M1.out.held
end Sn
end Go.Proofs.Ytncgihbnfmpdbaa
