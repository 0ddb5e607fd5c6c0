/-
  Contracts: how a snapshot tree lies in memory; exists, children, Find (chapter 41).
  Contracts: Find, see (chapter 41), of the program.
  Contracts: see (chapter 41), of the program.
  Contracts: a valid tree is found valid (chapter 41), by the program.
  A name of a valid tree is found at its own node (chapter 41). Plain.
-/
import Derived.Test.YtncgihbnfmpdbaaProg
import Derived.Test.YtncgihbnfmpdbaaSnP
import Derived.Test.YtncgihbnfmpdbaaMem5
import Derived.Test.YtncgihbnfmpdbaaBx
import Derived.WalkSpells
import Derived.WalkLawsBesides
import Derived.BigQuiet
import Derived.Outline
import Derived.Deep.RegionHeld3
import Derived.Lib.QuietBelow
set_option linter.unusedVariables false
set_option linter.unusedSimpArgs false
set_option maxRecDepth 100000
namespace Go.Proofs.Ytncgihbnfmpdbaa
open Go.RowKit
namespace Sn
def stC (s : ByteArray) : List Value := [.string s]
theorem stC_len (x : ByteArray) : (stC x).length = 1 := rfl
theorem stC_one (x : ByteArray) : ∀ u ∈ stC x, u.oneCell' = true := by intro u hu; simp [stC] at hu; subst hu; rfl
/-- A node in memory is the node. -/
structure NrOk (w : World) (r : Nr) (x : Nd) : Prop where
  nm : r.nm = x.nm
  par : r.par = x.par
  op : r.op = x.op
  ds : Sl 2 dlC w r.A r.n x.ds
  nil : r.A = none → r.n = 0
/-- A tree in memory: the two slices. -/
structure TrR (w : World) (Ab : Option Addr) (nb : Nat) (An : Option Addr) (nn : Nat) (T : Tr) : Prop where
  bs : Sl 1 stC w Ab nb T.base
  bnil : Ab = none → nb = 0
  ns : ∃ R : List Nr, Sl 4 nrC w An nn R ∧ (An = none → nn = 0) ∧ R.length = T.nodes.length ∧ ∀ (i : Nat) (r : Nr) (x : Nd), R[i]? = some r → T.nodes[i]? = some x → NrOk w r x
theorem NrOk.held {w a : World} {r : Nr} {x : Nd} (h : NrOk w r x) (q : Held w a) : NrOk a r x := ⟨h.nm, h.par, h.op, h.ds.held q, h.nil⟩
theorem TrR.held {w a : World} {Ab : Option Addr} {nb : Nat} {An : Option Addr} {nn : Nat} {T : Tr} (h : TrR w Ab nb An nn T) (q : Held w a) : TrR a Ab nb An nn T := by
  obtain ⟨R, h1, h2, h3, h4⟩ := h.ns
  exact ⟨h.bs.held q, h.bnil, R, h1.held q, h2, h3, fun i r x hr hx => (h4 i r x hr hx).held q⟩
theorem TrR.nn {w : World} {Ab : Option Addr} {nb : Nat} {An : Option Addr} {nn : Nat} {T : Tr} (h : TrR w Ab nb An nn T) : T.nodes.length = nn := by
  obtain ⟨R, h1, _, h3, _⟩ := h.ns
  rw [← h3]; exact h1.1
/-- A node of a tree: its cells, its deltas. -/
theorem TrR.at_ {w a : World} {Ab : Option Addr} {nb : Nat} {An : Option Addr} {nn : Nat} {T : Tr} (h : TrR w Ab nb An nn T) (q : Held w a) {k : Nat} (hk : k < nn) :
    ∃ (b off : Nat) (x : Nd) (A : Option Addr) (n cap : Nat), An = some ⟨b, off, none⟩ ∧ b < w.heap.size ∧ T.nodes[k]? = some x ∧ a.cell? ⟨b, off + k * 4, none⟩ = some (.string x.nm) ∧ a.cell? ⟨b, off + k * 4 + 1, none⟩ = some (.int .i64 x.par) ∧ a.cell? ⟨b, off + k * 4 + 2, none⟩ = some (.bool x.op) ∧
      a.cell? ⟨b, off + k * 4 + 3, none⟩ = some (.slice A n cap) ∧ Sl 2 dlC w A n x.ds ∧ (A = none → n = 0) := by
  obtain ⟨R, h1, h2, h3, h4⟩ := h.ns
  obtain ⟨b, off, r, e, hb, hr, hc⟩ := Sl.at_ h1 q hk
  obtain ⟨x, hx⟩ : ∃ x, T.nodes[k]? = some x := ⟨_, List.getElem?_eq_getElem (by rw [h.nn]; exact hk)⟩
  have ho := h4 k r x hr hx
  refine ⟨b, off, x, r.A, r.n, r.cap, e, hb, hx, ?_, ?_, ?_, ?_, ho.ds, ho.nil⟩
  · have := hc 0 _ rfl; rw [Nat.add_zero, ho.nm] at this; exact this
  · have := hc 1 _ rfl; rw [ho.par] at this; exact this
  · have := hc 2 _ rfl; rw [ho.op] at this; exact this
  · exact hc 3 _ rfl
theorem ret_b {a b : Bool} (h : a = b) : Ending.returned (.bool a) = .returned (.bool b) := by rw [h]
theorem nm_live (x : Nd) : (!x.nm.toList.isEmpty) = live x := by
  unfold live
  rw [ByteArray.toList_eq]
  have : x.nm.size = x.nm.data.toList.length := (Array.length_toList (xs := x.nm.data)).symm
  rw [this]
  cases x.nm.data.toList with
  | nil => rfl
  | cons a l => rfl
set_option maxHeartbeats 2000000 in
theorem exists_any (Ab : Option Addr) (nb cb : Nat) (An : Option Addr) (nn cn : Nat) (T : Tr) (k : Int) (w : World) (h : TrR w Ab nb An nn T) :
    Calls Try.prog 39 #[.agg #[.slice Ab nb cb, .slice An nn cn], .int .i64 k] w fun e w' => e = .returned (.bool (ex T.nodes k)) ∧ Held w w' := by
  have HT := Lib.hid h
  have M0 := Lib.hid ((Mem.start w).alloc #[.slice Ab nb cb, .slice An nn cn] 27)
  have hnn := h.nn
  clear h
  by_cases g1 : k < 0
  · have HP : Hid (ex T.nodes k = false) := show _ = _ by unfold ex; rw [decide_eq_false (by omega)]; rfl
    go_enter Try.func39, Try.ntmps39
    go_wp2
    go_ret
    exact ⟨ret_b HP.out.symm, M0.out.held⟩
  · obtain ⟨i, rfl⟩ := Int.eq_ofNat_of_zero_le (by omega : 0 ≤ k)
    by_cases g2 : (i : Int) < nn
    · obtain ⟨b, off, x, A, n, cap, rfl, lb, hx, x0, x1, x2, x3, _⟩ := HT.out.at_ M0.out.held (k := i) (by omega)
      have HP : Hid (ex T.nodes i = live x) := show _ = _ by unfold ex; rw [show ((i : Int)).toNat = i by omega, hx]; simp
      have hl := nm_live x
      have hlb := lt_of_cell x0
      clear hx
      go_enter Try.func39, Try.ntmps39
      go_wp2
      go_ret
      exact ⟨ret_b HP.out.symm, M0.out.held⟩
    · have HP : Hid (ex T.nodes i = false) := show _ = _ by unfold ex; rw [show ((i : Int)).toNat = i by omega, List.getElem?_eq_none (by omega)]; simp
      go_enter Try.func39, Try.ntmps39
      go_wp2
      go_ret
      exact ⟨ret_b HP.out.symm, M0.out.held⟩
def inC (x : Int) : List Value := [.int .i64 x]
theorem inC_len (x : Int) : (inC x).length = 1 := rfl
theorem inC_one (x : Int) : ∀ u ∈ inC x, u.oneCell' = true := by intro u hu; simp [inC] at hu; subst hu; rfl
theorem info_int : (Try.prog.info? 3).map (fun i => (i.zero, i.size, i.bytes)) = some (some (.int .i64 0), 1, 8) := by kernel_rfl
/-- A list handed back in a slice of the call's own. -/
def Mks {α : Type} (e : TypeId) (s : Nat) (f : α → List Value) (L : List α) (w : World) (r : Ending) (w' : World) : Prop := ∃ A cap, r = .returned (.slice A L.length cap) ∧ L.length ≤ cap ∧ Own e s f w.heap.size w' (.slice A L.length cap) L ∧ Held w w'
theorem Mks.mk {α : Type} {e : TypeId} {s : Nat} {f : α → List Value} {L : List α} {w w' : World} {v : Value} (ho : Own e s f w.heap.size w' v L) (hh : Held w w') : Mks e s f L w (.returned v) w' := by
  obtain ⟨A, cap, rfl, hc, _⟩ := ho.shape
  exact ⟨A, cap, rfl, hc, ho, hh⟩
theorem kidsTo_next {N : List Nd} {n : Int} {k : Nat} {x : Nd} (hx : N[k]? = some x) : kidsTo N n (k + 1) = kidsTo N n k ++ (if isKid n x then [(k : Int)] else []) := by rw [kidsTo, hx]
theorem kidsTo_len (N : List Nd) (n : Int) : ∀ k, (kidsTo N n k).length ≤ k
  | 0 => Nat.le_refl _
  | k + 1 => by
    have := kidsTo_len N n k
    rw [kidsTo, List.length_append]
    split
    · split <;> simp <;> omega
    · simp; omega
set_option maxHeartbeats 2000000 in
theorem children_any (Ab : Option Addr) (nb cb : Nat) (An : Option Addr) (nn cn : Nat) (T : Tr) (p : Int) (w : World) (h : TrR w Ab nb An nn T) (hn : (nn : Int) ≤ 1000000) :
    Calls Try.prog 42 #[.agg #[.slice Ab nb cb, .slice An nn cn], .int .i64 p] w (Mks 3 1 inC (kids T.nodes p) w) := by
  have HT := Lib.hid h
  have HE : Hid (kids T.nodes p = kidsTo T.nodes p nn) := show _ = _ by unfold kids; rw [h.nn]
  have M0 := Lib.hid (((Mem.start w).alloc #[.slice Ab nb cb, .slice An nn cn] 27).nilRow (e := 3) (s := 1) (f := inC))
  clear h
  go_enter Try.func42, Try.ntmps42
  go_wp2
  go_loopw [5, 11] (fun v i wr => ∃ k : Nat, i = .int .i64 k ∧ k ≤ nn ∧ Mem w wr [.box w.heap.size #[.slice Ab nb cb, .slice An nn cn] 27, .row 3 1 inC w.heap.size v (kidsTo T.nodes p k)]) (fun _ i _ => nn - (intOf i).toNat)
  case atStart => exact ⟨0, rfl, Nat.zero_le _, M0.out⟩
  case round =>
    obtain ⟨k, rfl, hk, M⟩ := hrel
    have M1 := Lib.hid M
    clear M M0
    by_cases hlt : (k : Int) < nn
    · obtain ⟨b, off, x, A, n, cap, rfl, lb, hx, x0, x1, x2, x3, _⟩ := HT.out.at_ M1.out.held (k := k) (by omega)
      have HN := Lib.hid (kidsTo_next (n := p) hx)
      have hlb := lt_of_cell x0
      simp only at hlb
      have hl := nm_live x
      have M2 := Lib.hid (M1.out.alloc #[.string x.nm, .int .i64 x.par, .bool x.op, .slice A n cap] 36)
      obtain ⟨ln, hln⟩ : ∃ ln, (kidsTo T.nodes p k).length = ln := ⟨_, rfl⟩
      have hlen := kidsTo_len T.nodes p k
      rw [hln] at hlen
      have HLN := Lib.hid hln
      clear hx hln
      cases hlv : live x
      · rw [hlv] at hl
        have HS : Hid (kidsTo T.nodes p (k + 1) = kidsTo T.nodes p k) := show _ = _ by rw [HN.out]; unfold isKid; rw [hlv]; simp
        clear hlv
        go_wp2
        go_roundw
        case rel => exact ⟨k + 1, by go_num, by omega, by rw [HS.out]; exact M2.out.take 2⟩
        case measure => (simp [intOf]) <;> omega
      · rw [hlv] at hl
        by_cases hp : x.par = p
        · have HS : Hid (kidsTo T.nodes p (k + 1) = kidsTo T.nodes p k ++ [(k : Int)]) := show _ = _ by rw [HN.out]; unfold isKid; rw [hlv]; simp [hp]
          have hb : (x.par == p) = true := by simp [hp]
          clear hlv hp
          go_wp2_with (at_builtin; refine Mem.wp_app (M2.out.skip _) 1 rfl rfl _ _ _ rfl _ 8 Try.underlying22 info_int rfl (by decide) inC_len inC_one (k : Int) ⟨wr.heap.size + 1, 0, none⟩ 1 rfl rfl (cells_new _ (by simp) _ _) ln HLN.out (by omega) (by decide) ?_; intro g4 cp4 w4 M4; have M5 := Lib.hid M4; clear M4)
          go_roundw
          case rel => exact ⟨k + 1, by go_num, by omega, by rw [HS.out]; exact M5.out.take 2⟩
          case measure => (simp [intOf]) <;> omega
        · have HS : Hid (kidsTo T.nodes p (k + 1) = kidsTo T.nodes p k) := show _ = _ by rw [HN.out]; unfold isKid; simp [hp]
          have hb : (x.par == p) = false := by simp [hp]
          clear hlv hp
          go_wp2
          go_roundw
          case rel => exact ⟨k + 1, by go_num, by omega, by rw [HS.out]; exact M2.out.take 2⟩
          case measure => (simp [intOf]) <;> omega
    · obtain rfl : nn = k := by omega
      rw [← HE.out] at M1
      go_wp2
      go_ret
      exact Mks.mk (M1.out.row 1 rfl) M1.out.held
end Sn
end Go.Proofs.Ytncgihbnfmpdbaa

set_option linter.unusedVariables false
set_option linter.unusedSimpArgs false
set_option maxRecDepth 100000
namespace Go.Proofs.Ytncgihbnfmpdbaa
open Go.RowKit
namespace Sn
/-- What Find hands back. -/
def findR (N : List Nd) (nm : ByteArray) : Int × Bool := match find N nm with | some i => ((i : Int), true) | none => (0, false)
theorem findTo_next {N : List Nd} {nm : ByteArray} {k : Nat} {x : Nd} (hx : N[k]? = some x) (h : findTo N nm k = none) : findTo N nm (k + 1) = if x.nm = nm then some k else none := by rw [findTo, h, hx]
theorem findTo_stay {N : List Nd} {nm : ByteArray} {k i : Nat} (h : findTo N nm k = some i) : ∀ j, k ≤ j → findTo N nm j = some i := by
  intro j hj
  induction j with
  | zero => obtain rfl : k = 0 := by omega
            exact h
  | succ j ih =>
    by_cases e : k = j + 1
    · rw [← e]; exact h
    · rw [findTo, ih (by omega)]
theorem ba_toList {a b : ByteArray} : a.toList = b.toList ↔ a = b := by
  constructor
  · intro h
    rw [ByteArray.toList_eq, ByteArray.toList_eq] at h
    cases a; cases b
    simp at h
    subst h; rfl
  · rintro rfl; rfl
theorem nm_eq (a b : ByteArray) : (a.toList == b.toList) = decide (a = b) := by
  by_cases h : a = b
  · subst h; simp
  · rw [decide_eq_false h, beq_eq_false_iff_ne]
    exact fun e => h (ba_toList.1 e)
theorem ret_ib {p : Int × Bool} {a : Int} {b : Bool} (h : p = (a, b)) : Ending.returned (.tuple #[.int .i64 a, .bool b]) = .returned (.tuple #[.int .i64 p.1, .bool p.2]) := by rw [h]
theorem nm_empty {s : ByteArray} (h : ¬ s.size = 0) : s.toList.isEmpty = false := by
  rw [ByteArray.toList_eq]
  have : s.size = s.data.toList.length := (Array.length_toList (xs := s.data)).symm
  rw [this] at h
  cases hs : s.data.toList with
  | nil => rw [hs] at h; exact absurd rfl h
  | cons a l => rfl
set_option maxHeartbeats 2000000 in
theorem find_any (Ab : Option Addr) (nb cb : Nat) (An : Option Addr) (nn cn : Nat) (T : Tr) (nm : ByteArray) (w : World) (h : TrR w Ab nb An nn T) (hn : (nn : Int) ≤ 1000000) (hnm : ¬ nm.size = 0) :
    Calls Try.prog 20 #[.agg #[.slice Ab nb cb, .slice An nn cn], .string nm] w fun e w' => e = .returned (.tuple #[.int .i64 (findR T.nodes nm).1, .bool (findR T.nodes nm).2]) ∧ Held w w' := by
  have HT := Lib.hid h
  have HE : Hid (find T.nodes nm = findTo T.nodes nm nn) := show _ = _ by unfold find; rw [h.nn]
  have M0 := Lib.hid ((Mem.start w).alloc #[.slice Ab nb cb, .slice An nn cn] 27)
  have hne := nm_empty hnm
  clear h hnm
  go_enter Try.func20, Try.ntmps20
  go_wp2
  go_loopw [13] (fun i wr => ∃ k : Nat, i = .int .i64 k ∧ k ≤ nn ∧ findTo T.nodes nm k = none ∧ Mem w wr [.box w.heap.size #[.slice Ab nb cb, .slice An nn cn] 27]) (fun i _ => nn - (intOf i).toNat)
  case atStart => exact ⟨0, rfl, Nat.zero_le _, rfl, M0.out⟩
  case round =>
    obtain ⟨k, rfl, hk, hno, M⟩ := hrel
    have M1 := Lib.hid M
    have HNO := Lib.hid hno
    clear M M0 hno
    by_cases hlt : (k : Int) < nn
    · obtain ⟨b, off, x, A, n, cap, rfl, lb, hx, x0, x1, x2, x3, _⟩ := HT.out.at_ M1.out.held (k := k) (by omega)
      have HN := Lib.hid (findTo_next hx HNO.out)
      have hlb := lt_of_cell x0
      simp only at hlb
      have hq := nm_eq x.nm nm
      have M2 := Lib.hid (M1.out.alloc #[.string x.nm, .int .i64 x.par, .bool x.op, .slice A n cap] 36)
      clear hx
      by_cases he : x.nm = nm
      · rw [decide_eq_true he] at hq
        have HP : Hid (findR T.nodes nm = ((k : Int), true)) := show _ = _ by
          have := HN.out
          rw [if_pos he] at this
          unfold findR
          rw [HE.out, findTo_stay this nn (by omega)]
        clear he
        go_wp2
        go_ret2
        exact ⟨ret_ib HP.out, M2.out.held⟩
      · rw [decide_eq_false he] at hq
        have HN2 : Hid (findTo T.nodes nm (k + 1) = none) := show _ = _ by rw [HN.out, if_neg he]
        clear he
        go_wp2
        go_roundw
        case rel => exact ⟨k + 1, by go_num, by omega, HN2.out, M2.out.take 1⟩
        case measure => (simp [intOf]) <;> omega
    · obtain rfl : nn = k := by omega
      have HP : Hid (findR T.nodes nm = (0, false)) := show _ = _ by unfold findR; rw [HE.out, HNO.out]
      go_wp2
      go_ret2
      exact ⟨ret_ib HP.out, M1.out.held⟩
end Sn
end Go.Proofs.Ytncgihbnfmpdbaa

set_option linter.unusedVariables false
set_option linter.unusedSimpArgs false
set_option maxRecDepth 100000
namespace Go.Proofs.Ytncgihbnfmpdbaa
open Go.RowKit
namespace Sn
theorem take_snoc' {α : Type} {l : List α} {k : Nat} {x : α} (h : l[k]? = some x) : l.take (k + 1) = l.take k ++ [x] := by
  obtain ⟨hk, rfl⟩ := List.getElem?_eq_some_iff.1 h
  exact List.take_succ_eq_append_getElem hk
theorem look_next {ds : List Dl} {k : Nat} {d : Dl} {b : Int} (h : ds[k]? = some d) (hn : look (ds.take k) b = none) : look (ds.take (k + 1)) b = if d.b = b then some d.s else none := by
  rw [take_snoc' h, look_app, hn]
  simp only
  rw [look_cons]; rfl
theorem look_take {ds : List Dl} {k : Nat} {b : Int} {s : ByteArray} (h : look (ds.take k) b = some s) : look ds b = some s := by
  have e : ds = ds.take k ++ ds.drop k := (List.take_append_drop k ds).symm
  rw [e, look_app, h]
/-- A delta in memory. -/
theorem dl_at {w a : World} {A : Option Addr} {n : Nat} {L : List Dl} (h : Sl 2 dlC w A n L) (ha : Held w a) {k : Nat} (hk : k < n) :
    ∃ b off d, A = some ⟨b, off, none⟩ ∧ b < w.heap.size ∧ L[k]? = some d ∧ a.cell? ⟨b, off + k * 2, none⟩ = some (.int .i64 d.b) ∧ a.cell? ⟨b, off + k * 2 + 1, none⟩ = some (.string d.s) := by
  obtain ⟨b, off, x, e, hb, hx, hc⟩ := Sl.at_ h ha hk
  exact ⟨b, off, x, e, hb, hx, hc 0 _ rfl, hc 1 _ rfl⟩
/-- A block of the base in memory. -/
theorem st_at {w a : World} {A : Option Addr} {n : Nat} {L : List ByteArray} (h : Sl 1 stC w A n L) (ha : Held w a) {k : Nat} (hk : k < n) :
    ∃ b off s, A = some ⟨b, off, none⟩ ∧ b < w.heap.size ∧ L[k]? = some s ∧ a.cell? ⟨b, off + k, none⟩ = some (.string s) := by
  obtain ⟨b, off, x, e, hb, hx, hc⟩ := Sl.at_ h ha hk
  have := hc 0 _ rfl
  rw [Nat.add_zero, Nat.mul_one] at this
  exact ⟨b, off, x, e, hb, hx, this⟩
theorem ret_s {a b : ByteArray} (h : a = b) : Ending.returned (.string a) = .returned (.string b) := by rw [h]
set_option maxHeartbeats 2000000 in
theorem see_any (Ab : Option Addr) (nb cb : Nat) (An : Option Addr) (nn cn : Nat) (T : Tr) (n0 : Int) (blk : Nat) (w : World) (h : TrR w Ab nb An nn T) (hk : Ok T) (hn0 : -1 ≤ n0) (hn1 : n0 < nn) (hb : blk < nb) (hdn : ∀ (i : Nat) (x : Nd), T.nodes[i]? = some x → (x.ds.length : Int) ≤ 1000000) :
    Calls Try.prog 26 #[.agg #[.slice Ab nb cb, .slice An nn cn], .int .i64 n0, .int .i64 blk] w fun e w' => e = .returned (.string (sees T n0 blk)) ∧ Held w w' := by
  have HT := Lib.hid h
  have HK := Lib.hid hk
  have HD := Lib.hid hdn
  have M0 := Lib.hid ((Mem.start w).alloc #[.slice Ab nb cb, .slice An nn cn] 27)
  have hnn := h.nn
  have HNN := Lib.hid hnn
  obtain ⟨S, hS⟩ : ∃ S, sees T n0 blk = S := ⟨_, rfl⟩
  have HS := Lib.hid hS
  rw [hS]
  have H12 := hk.nods
  clear h hk hdn hS
  go_enter Try.func26, Try.ntmps26
  go_wp2
  go_loopw [1] (fun i wr => ∃ n : Int, i = .int .i64 n ∧ -1 ≤ n ∧ n < nn ∧ sees T n blk = S ∧ Mem w wr [.box w.heap.size #[.slice Ab nb cb, .slice An nn cn] 27]) (fun i _ => (intOf i + 1).toNat)
  case atStart => exact ⟨n0, rfl, hn0, hn1, HS.out, M0.out⟩
  case round =>
    obtain ⟨n, rfl, hm1, hlt, hse, M⟩ := hrel
    have M1 := Lib.hid M
    have HSE := Lib.hid hse
    obtain ⟨⟨t0, t1⟩, tf, tlt⟩ := M.box2 0 rfl
    clear tf
    clear M M0 hse
    by_cases hneg : n < 0
    · obtain ⟨b, off, s, rfl, lb, hs, x0⟩ := st_at HT.out.bs M1.out.held (k := blk) hb
      have HP : Hid (S = s) := show _ = _ by
        rw [← HSE.out, sees_base _ _ hneg]
        unfold base
        rw [show ((blk : Int)).toNat = blk by omega, List.getD_eq_getElem?_getD, hs]; rfl
      have k0 : ¬ (blk : Int) < 0 := by omega
      have k1 : (blk : Int) < nb := by omega
      clear hs
      go_wp2
      go_ret
      exact ⟨ret_s HP.out.symm, M1.out.held⟩
    · obtain ⟨i, rfl⟩ := Int.eq_ofNat_of_zero_le (by omega : 0 ≤ n)
      obtain ⟨b, off, x, A, dn, dcap, rfl, lb, hx, x0, x1, x2, x3, hds, _⟩ := HT.out.at_ M1.out.held (k := i) (by omega)
      have hpar := ok_par_lt HK.out hx
      have HAT := Lib.hid (sees_at HK.out hx (blk : Int))
      have hdl := HD.out i x hx
      have HDS := Lib.hid hds
      rw [hds.1] at hdl
      have i0 : ¬ (i : Int) < 0 := by omega
      have X := Lib.hid (And.intro x0 (And.intro x1 (And.intro x2 x3)))
      obtain ⟨wA, hwA⟩ : ∃ wA, wA = wr := ⟨_, rfl⟩
      rw [← hwA] at M1 X t0 t1 tlt x0 x1 x2 x3 ⊢
      clear hwA wr hx hds
      go_wp2
      go_loopw [18] (fun j w2 => ∃ k : Nat, j = .int .i64 k ∧ k ≤ dn ∧ look (x.ds.take k) blk = none ∧ Held wA w2) (fun j _ => dn - (intOf j).toNat)
      case atStart => exact ⟨0, rfl, Nat.zero_le _, rfl, Held.refl _⟩
      case round =>
        obtain ⟨k, rfl, hk, hno, hw⟩ := hrel
        have HW := Lib.hid hw
        have HNO := Lib.hid hno
        clear hw hno x0 x1 x2 x3 t0 t1 tlt
        by_cases hlt2 : (k : Int) < dn
        · obtain ⟨b2, o2, d, rfl, lb2, hd, y0, y1⟩ := dl_at HDS.out (M1.out.held.step HW.out) (k := k) (by omega)
          have HLN := Lib.hid (look_next hd HNO.out)
          have hlb := lt_of_cell y0
          simp only at hlb
          clear hd
          by_cases he : d.b = (blk : Int)
          · have hq : (d.b == (blk : Int)) = true := by simp [he]
            have HP : Hid (S = d.s) := show _ = _ by
              have h1 := HLN.out
              rw [if_pos he] at h1
              rw [← HSE.out, HAT.out, look_take h1]
            clear he
            go_wp2
            go_ret
            exact ⟨ret_s HP.out.symm, (M1.out.held.step HW.out).alloc _⟩
          · have hq : (d.b == (blk : Int)) = false := by simp [he]
            have HN2 : Hid (look (x.ds.take (k + 1)) blk = none) := show _ = _ by rw [HLN.out, if_neg he]
            clear he
            go_wp2
            go_roundw
            case rel => exact ⟨k + 1, by go_num, by omega, HN2.out, HW.out.alloc _⟩
            case measure => (simp [intOf]) <;> omega
        · obtain rfl : dn = k := by omega
          have HP : Hid (sees T x.par blk = S) := show _ = _ by
            have h1 := HNO.out
            rw [List.take_of_length_le (by rw [HDS.out.1]; exact Nat.le_refl _)] at h1
            rw [← HSE.out, HAT.out, h1]
          have z1 := HW.out.cell X.out.2.1
          have M2 := Lib.hid (M1.out.keep HW.out)
          obtain ⟨⟨t0, t1⟩, _, tlt⟩ := M2.out.box2 0 rfl
          go_wp2
          go_roundw
          case rel => exact ⟨x.par, rfl, by omega, by omega, HP.out, M2.out⟩
          case measure => (simp [intOf]) <;> omega
end Sn
end Go.Proofs.Ytncgihbnfmpdbaa

set_option linter.unusedVariables false
set_option linter.unusedSimpArgs false
set_option maxRecDepth 100000
namespace Go.Proofs.Ytncgihbnfmpdbaa
open Go.RowKit
namespace Sn
/-- The block of the last delta looked at. -/
def lastB (ds : List Dl) : Nat → Int
  | 0 => -1
  | k + 1 => match ds[k]? with | some d => d.b | none => -1
theorem lastB_lt {ds : List Dl} {N k : Nat} {d : Dl} (h : DsOk ds N) (hd : ds[k]? = some d) : lastB ds k < d.b := by
  cases k with
  | zero => have := (h.all d (List.mem_of_getElem? hd)).1; show (-1 : Int) < d.b; omega
  | succ k =>
    obtain ⟨hk, rfl⟩ := List.getElem?_eq_some_iff.1 hd
    have hk' : k < ds.length := by omega
    rw [lastB, List.getElem?_eq_getElem hk']
    exact List.pairwise_iff_getElem.1 h.sorted k (k + 1) hk' hk (by omega)
set_option maxHeartbeats 2000000 in
theorem vdeltas_any (A : Option Addr) (n cap : Nat) (ds : List Dl) (N : Nat) (w : World) (h : Sl 2 dlC w A n ds) (hd : DsOk ds N) (hn : (n : Int) ≤ 1000000) :
    Calls Try.prog 52 #[.slice A n cap, .int .i64 N] w fun e w' => e = .returned (.bool true) ∧ Held w w' := by
  have HS := Lib.hid h
  have HD := Lib.hid hd
  clear h hd
  go_enter Try.func52, Try.ntmps52
  go_wp2
  go_loopw [5, 10] (fun l i wr => ∃ k : Nat, i = .int .i64 k ∧ k ≤ n ∧ l = .int .i64 (lastB ds k) ∧ Held w wr) (fun _ i _ => n - (intOf i).toNat)
  case atStart => exact ⟨0, rfl, Nat.zero_le _, rfl, Held.refl _⟩
  case round =>
    obtain ⟨k, rfl, hk, rfl, hw⟩ := hrel
    have HW := Lib.hid hw
    clear hw
    by_cases hlt : (k : Int) < n
    · obtain ⟨b, off, d, rfl, lb, hd, x0, x1⟩ := dl_at HS.out HW.out (k := k) (by omega)
      have hlb := lt_of_cell x0
      simp only at hlb
      have hll := lastB_lt HD.out hd
      have ha := HD.out.all d (List.mem_of_getElem? hd)
      have h1 : ¬ (N : Int) ≤ d.b := by omega
      have h2 : ((d.s.size : Int) != 128) = false := by rw [ha.2.2]; rfl
      have HN : Hid (lastB ds (k + 1) = d.b) := show _ = _ by rw [lastB, hd]
      obtain ⟨lst, hlst⟩ : ∃ x, lastB ds k = x := ⟨_, rfl⟩
      rw [hlst] at hll ⊢
      have h3 : ¬ d.b ≤ lst := by omega
      clear hd ha hlst
      go_wp2
      go_roundw
      case rel => exact ⟨k + 1, by go_num, by omega, by rw [HN.out], HW.out.alloc _⟩
      case measure => (simp [intOf]) <;> omega
    · obtain ⟨lst, hlst⟩ : ∃ x, lastB ds k = x := ⟨_, rfl⟩
      rw [hlst]
      clear hlst
      go_wp2
      go_ret
      exact ⟨rfl, HW.out⟩
end Sn
end Go.Proofs.Ytncgihbnfmpdbaa

set_option linter.unusedVariables false
set_option linter.unusedSimpArgs false
namespace Go.Proofs.Ytncgihbnfmpdbaa
open Go.RowKit
namespace Sn
theorem findR_at {T : Tr} (h : Ok T) {i : Nat} {x : Nd} (hx : T.nodes[i]? = some x) (hl : ¬ x.nm.size = 0) : findR T.nodes x.nm = ((i : Int), true) := by
  have hi : i < T.nodes.length := (List.getElem?_eq_some_iff.1 hx).1
  have h0 : findTo T.nodes x.nm i = none := (findTo_none i).2 fun j y hj hy => (h.node i x hx).once hl j y hj hy
  have h1 : findTo T.nodes x.nm (i + 1) = some i := by rw [findTo_next hx h0, if_pos rfl]
  have h2 : find T.nodes x.nm = some i := findTo_stay h1 T.nodes.length (by omega)
  unfold findR
  rw [h2]
end Sn
end Go.Proofs.Ytncgihbnfmpdbaa
