/-
  Contracts of the reference's assembler: the operation of a mnemonic.
  Contracts of the reference's assembler: lines, addresses of labels.
  Contracts of the reference's assembler: decimal numbers.
  Contracts of the reference's assembler: operands of a statement.
  Contracts of the reference's assembler: the pattern of a statement.
  Contracts of the reference's assembler: a line.
-/
import Derived.Test.YtdacgdokbfcgdaaGreatW7
import Derived.Test.YtdacgdokbfcgdaaGreatW17
import Derived.Test.YtdacgdokbfcgdaaGreatW1
import Derived.Test.YtdacgdokbfcgdaaGreatW6
import Derived.Deep.CutBlock
import Derived.Deep.DeepCutAuto
set_option linter.unusedVariables false
set_option linter.unusedSimpArgs false
set_option maxRecDepth 100000
namespace Go.Proofs.YtdacgdokbfcgdaaGreat
open Go.RowKit Go.BigFrame Go.Lib
namespace As
def NatTo (n : Nat) (w : World) (e : Ending) (w' : World) : Prop := e = .returned (.int .i64 (n : Int)) ∧ Held w w'
theorem opFrom_step (s : List UInt8) (q : Nat) (h : q ≤ 64) (h1 : 1 ≤ q) : opFrom s (65 - q) q = if 0 < form q ∧ mnem q = s then q else opFrom s (65 - (q + 1)) (q + 1) := by
  obtain ⟨k, hk⟩ : ∃ k, 65 - q = k + 1 := ⟨64 - q, by omega⟩
  have hk2 : 65 - (q + 1) = k := by omega
  rw [hk, hk2, opFrom]
  by_cases e : 0 < form q ∧ mnem q = s
  · rw [if_pos e, if_pos (by simp [e.1, e.2])]
  · rw [if_neg e, if_neg]
    intro hc
    simp only [Bool.and_eq_true, decide_eq_true_eq, beq_iff_eq] at hc
    exact e hc
theorem ba_eq' (s : ByteArray) (l : List UInt8) : (l == s.toList) = decide (l = s.data.toList) := by
  rw [ByteArray.toList_eq]
  by_cases h : l = s.data.toList
  · simp [h]
  · rw [decide_eq_false h, beq_eq_false_iff_ne]; exact h
set_option maxHeartbeats 2000000 in
theorem operation_any (s : ByteArray) (w : World) : Calls Tryz.prog 109 #[.string s] w (NatTo (operation s.data.toList) w) := by
  have HF := Lib.hid fun (n : Nat) (h : n ≤ 64) (w : World) => form_any n h w
  have HM := Lib.hid fun (n : Nat) (h : n ≤ 64) (h2 : 0 < form n) (w : World) => mnem_any n h h2 w
  unfold StrTo at HM
  obtain ⟨o, ho⟩ : ∃ o, operation s.data.toList = o := ⟨_, rfl⟩
  have HO := Lib.hid ho
  rw [ho]
  clear ho
  go_enter Tryz.func109, Tryz.ntmps109
  go_wp2
  go_loopw [3] (fun i wr => ∃ q : Nat, i = .int .i64 (q : Int) ∧ 1 ≤ q ∧ q ≤ 65 ∧ opFrom s.data.toList (65 - q) q = o ∧ Held w wr) (fun i _ => 65 - (RowKit.intOf i).toNat)
  case atStart => exact ⟨1, rfl, Nat.le_refl _, by decide, HO.out, Held.refl _⟩
  case round =>
    obtain ⟨q, rfl, hq1, hq, hf, hh⟩ := hrel
    have HS0 := Lib.hid hf
    have HH := Lib.hid hh
    clear hf hh
    by_cases hlt : q ≤ 64
    · have z : (q : Int) ≤ 64 := by omega
      have HS := Lib.hid (opFrom_step s.data.toList q hlt hq1)
      have HFq := Lib.hid fun w => HF.out q hlt w
      by_cases h0 : 0 < form q
      · have HMq := Lib.hid fun w => HM.out q hlt h0 w
        have zf : (0 : Int) < form q := by omega
        obtain ⟨l, hl⟩ : ∃ l, mnem q = l := ⟨_, rfl⟩
        rw [hl] at HMq HS
        have heq := ba_eq' s l
        obtain ⟨f, hf⟩ : ∃ f, form q = f := ⟨_, rfl⟩
        rw [hf] at HFq zf h0 HS
        by_cases hs : l = s.data.toList
        · have HO2 : Is o q := ⟨by rw [← HS0.out, HS.out, if_pos ⟨h0, hs⟩]⟩
          rw [decide_eq_true hs] at heq
          clear hs HS HS0 hl hf
          go_wp2_with fail
          refine (HFq.out _).mono ?_
          rintro e w2 ⟨rfl, rfl⟩
          go_wp2_with fail
          refine (HMq.out _).mono ?_
          rintro e w2 ⟨rfl, h2⟩
          go_wp2
          go_ret
          exact ⟨by rw [HO2.out]; rfl, HH.out.step h2⟩
        · have HO2 := Lib.hid (show opFrom s.data.toList (65 - (q + 1)) (q + 1) = o by rw [← HS0.out, HS.out, if_neg (fun h => hs h.2)])
          rw [decide_eq_false hs] at heq
          clear hs HS HS0 hl hf
          go_wp2_with fail
          refine (HFq.out _).mono ?_
          rintro e w2 ⟨rfl, rfl⟩
          go_wp2_with fail
          refine (HMq.out _).mono ?_
          rintro e w2 ⟨rfl, h2⟩
          go_wp2
          go_roundw
          case rel => exact ⟨q + 1, by go_num, by omega, by omega, HO2.out, HH.out.step h2⟩
          case measure => (simp [RowKit.intOf]) <;> omega
      · have HO2 := Lib.hid (show opFrom s.data.toList (65 - (q + 1)) (q + 1) = o by rw [← HS0.out, HS.out, if_neg (fun h => h0 h.1)])
        have zf : form q = 0 := by omega
        rw [zf] at HFq
        clear HS HS0 zf h0
        go_wp2_with fail
        refine (HFq.out _).mono ?_
        rintro e w2 ⟨rfl, rfl⟩
        go_wp2
        go_roundw
        case rel => exact ⟨q + 1, by go_num, by omega, by omega, HO2.out, HH.out⟩
        case measure => (simp [RowKit.intOf]) <;> omega
    · obtain rfl : q = 65 := by omega
      have z : ¬ ((65 : Nat) : Int) ≤ 64 := by omega
      have HO2 : Is o 0 := ⟨by rw [← HS0.out]; rfl⟩
      go_wp2
      go_ret
      exact ⟨by rw [HO2.out]; rfl, HH.out⟩
end As
end Go.Proofs.YtdacgdokbfcgdaaGreat

namespace Go.Proofs.YtdacgdokbfcgdaaGreat
open Go.RowKit Go.BigFrame Go.Lib
namespace As
theorem info_str : (Tryz.prog.info? 9).map (fun i => (i.zero, i.size, i.bytes)) = some (some (.string ⟨#[]⟩), 1, 16) := by kernel_rfl
def strC (l : List UInt8) : List Value := [.string ⟨l.toArray⟩]
theorem strC_len (x : List UInt8) : (strC x).length = 1 := rfl
theorem strC_one (x : List UInt8) : ∀ u ∈ strC x, u.oneCell' = true := by intro u hu; simp [strC] at hu; subst hu; rfl
theorem lines_go (s : List UInt8) : lines s = lines.go s [] := by
  cases s with
  | nil => simp [lines, lines.go]
  | cons c r => rfl
theorem go_at {s : ByteArray} {q f : Nat} (hq : q < s.size) (hf : f ≤ q) : lines.go (s.data.toList.drop q) ((s.data.toList.drop f).take (q - f)) =
    if s[q] = 10 then (s.data.toList.drop f).take (q - f) :: lines.go (s.data.toList.drop (q + 1)) ((s.data.toList.drop (q + 1)).take (q + 1 - (q + 1))) else lines.go (s.data.toList.drop (q + 1)) ((s.data.toList.drop f).take (q + 1 - f)) := by
  have ht : (s.data.toList.drop f).take (q + 1 - f) = (s.data.toList.drop f).take (q - f) ++ [s[q]] := by
    rw [show q + 1 - f = (q - f) + 1 by omega, List.take_add_one]
    congr 1
    rw [List.getElem?_drop, show f + (q - f) = q by omega]
    have : s.data.toList[q]? = some s[q] := by
      rw [List.getElem?_eq_getElem (by rw [len_b]; exact hq)]; rfl
    rw [this]; rfl
  rw [By.drop_at s q hq, lines.go, ht]
  simp
def LinTo (L : List (List UInt8)) (w : World) (e : Ending) (w' : World) : Prop := ∃ A n cap, e = .returned (.slice A n cap) ∧ Own 9 1 strC w.heap.size w' (.slice A n cap) L ∧ Held w w'
set_option maxHeartbeats 4000000 in
theorem lines_any (s : ByteArray) (hs : s.size ≤ 8192) (w : World) : Calls Tryz.prog 72 #[.string s] w (LinTo (lines s.data.toList) w) := by
  obtain ⟨L, hL⟩ : ∃ L, lines s.data.toList = L := ⟨_, rfl⟩
  rw [hL]
  rw [lines_go] at hL
  have HL0 := Lib.hid hL
  clear hL
  have M0 := Lib.hid ((Mem.start w).nilRow (e := 9) (s := 1) (f := strC))
  go_enter Tryz.func72, Tryz.ntmps72
  go_wp2
  go_loopw [3, 4, 5] (fun v f i wr => ∃ (q g : Nat) (L1 : List (List UInt8)), f = .int .i64 (g : Int) ∧ i = .int .i64 (q : Int) ∧ g ≤ q ∧ q ≤ s.size ∧ L1.length ≤ q ∧ L = L1 ++ lines.go (s.data.toList.drop q) ((s.data.toList.drop g).take (q - g)) ∧ Mem w wr [.row 9 1 strC w.heap.size v L1]) (fun _ _ i _ => s.size - (RowKit.intOf i).toNat)
  case atStart => exact ⟨0, 0, [], rfl, rfl, Nat.le_refl _, Nat.zero_le _, Nat.le_refl _, by rw [← HL0.out]; rfl, M0.out⟩
  case round =>
    clear M0 HL0
    obtain ⟨q, g, L1, rfl, rfl, hgq, hq, hl1, hL, hM⟩ := hrel
    obtain ⟨A2, cap2, rfl, hcap2, _⟩ := (hM.row 0 rfl).shape
    obtain ⟨n1, hn1⟩ : ∃ n1, L1.length = n1 := ⟨_, rfl⟩
    have HN1 : Is L1.length n1 := ⟨hn1⟩
    rw [hn1] at hM hl1 hcap2 ⊢
    have M := Lib.hid hM
    by_cases hlt : q < s.size
    · have y1 : (q : Int) < s.size := by omega
      have y2 : (0 : Int) ≤ q := by omega
      have ix := By.idx s (q : Int) q rfl hlt
      rw [go_at hlt hgq] at hL
      obtain ⟨c, hcs⟩ : ∃ c, s[q] = c := ⟨_, rfl⟩
      rw [hcs] at hL ix
      by_cases hc : c = 10
      · have e10 : ((c.toNat : Int) == 10) = true := by subst hc; rfl
        rw [if_pos hc] at hL
        obtain ⟨tl, htl⟩ : ∃ tl, (s.data.toList.drop g).take (q - g) = tl := ⟨_, rfl⟩
        have hx := ext_take s g q
        rw [htl] at hL hx
        have HL := Lib.hid hL
        have M2 := Lib.hid (M.out.skip (.cells #[.string ⟨tl.toArray⟩] 9))
        have hb1 : (n1 + 1) * 16 ≤ 140737488355328 := by omega
        have hq1 : n1 + 1 ≤ q + 1 := by omega
        have yj : (q : Int) ≤ s.size := by omega
        have yq : (g : Int) ≤ q := by omega
        clear hn1 hM hL hc hcs htl
        go_wp2_with (at_builtin; refine Mem.wp_app M2.out 0 rfl rfl _ _ _ rfl _ 16 Tryz.underlying141 info_str rfl (by decide) strC_len strC_one tl ⟨wr.heap.size, 0, none⟩ 1 rfl rfl (cells_new _ rfl _ _) n1 HN1.out hb1 (by decide) ?_; intro g4 cp4 w4 M4'; have M4 := Lib.hid M4'; clear M4')
        go_roundw
        case rel => exact ⟨q + 1, q + 1, L1 ++ [tl], by go_num, by go_num, Nat.le_refl _, by omega, by rw [List.length_append, HN1.out]; exact hq1, by rw [List.append_assoc]; exact HL.out, M4.out⟩
        case measure => (simp [RowKit.intOf]) <;> omega
      · have e10 : ((c.toNat : Int) == 10) = false := by
          rw [beq_eq_false_iff_ne]
          intro e
          exact hc (UInt8.toNat_inj.1 (by have : c.toNat = 10 := by omega
                                          exact this))
        rw [if_neg hc] at hL
        have HL := Lib.hid hL
        clear hn1 hM hL hc hcs
        go_wp2
        go_roundw
        case rel => exact ⟨q + 1, g, L1, rfl, by go_num, by omega, by omega, by rw [HN1.out]; omega, HL.out, M.out⟩
        case measure => (simp [RowKit.intOf]) <;> omega
    · obtain rfl : q = s.size := by omega
      have y1 : ¬ (s.size : Int) < s.size := by omega
      rw [List.drop_of_length_le (i := s.size) (by rw [len_b]; exact Nat.le_refl _), lines.go, List.take_of_length_le (by rw [List.length_drop, len_b]; exact Nat.le_refl _)] at hL
      by_cases hg : g < s.size
      · have y2 : (g : Int) < s.size := by omega
        have hne : s.data.toList.drop g ≠ [] := by
          intro e
          have := congrArg List.length e
          rw [List.length_drop, len_b] at this
          simp at this
          omega
        rw [if_neg hne] at hL
        obtain ⟨tl, htl⟩ : ∃ tl, s.data.toList.drop g = tl := ⟨_, rfl⟩
        have hx := ext_take s g s.size
        rw [List.take_of_length_le (by rw [List.length_drop, len_b]; exact Nat.le_refl _), htl] at hx
        rw [htl] at hL
        have HL := Lib.hid hL
        have M2 := Lib.hid (M.out.skip (.cells #[.string ⟨tl.toArray⟩] 9))
        have hb1 : (n1 + 1) * 16 ≤ 140737488355328 := by omega
        have yq : (g : Int) ≤ s.size := by omega
        clear hn1 hM hL htl hne
        go_wp2_with (at_builtin; refine Mem.wp_app M2.out 0 rfl rfl _ _ _ rfl _ 16 Tryz.underlying141 info_str rfl (by decide) strC_len strC_one tl ⟨wr.heap.size, 0, none⟩ 1 rfl rfl (cells_new _ rfl _ _) n1 HN1.out hb1 (by decide) ?_; intro g4 cp4 w4 M4'; have M4 := Lib.hid M4'; clear M4')
        go_ret
        exact ⟨_, _, _, rfl, by rw [HL.out]; exact M4.out.row 0 rfl, M4.out.held⟩
      · have y2 : ¬ (g : Int) < s.size := by omega
        rw [List.drop_of_length_le (by rw [len_b]; omega), if_pos rfl, List.append_nil] at hL
        have HL := Lib.hid hL
        clear hn1 hM hL
        go_wp2
        go_ret
        exact ⟨_, _, _, rfl, by rw [HL.out]; exact M.out.row 0 rfl, M.out.held⟩
def symC (s : Sym) : List Value := [.string ⟨s.n.toArray⟩, .int .u32 (s.a : Int)]
theorem symC_len (x : Sym) : (symC x).length = 2 := rfl
theorem symC_one (x : Sym) : ∀ u ∈ symC x, u.oneCell' = true := by intro u hu; simp [symC] at hu; rcases hu with rfl | rfl <;> rfl
theorem symAt {w a : World} {A : Option Addr} {n : Nat} {L : List Sym} (h : Sl 2 symC w A n L) (ha : Held w a) {k : Nat} (hk : k < n) :
    ∃ b off x y, A = some ⟨b, off, none⟩ ∧ b < w.heap.size ∧ L[k]? = some ⟨x, y⟩ ∧ a.cell? ⟨b, off + k * 2, none⟩ = some (.string ⟨x.toArray⟩) ∧ a.cell? ⟨b, off + k * 2 + 1, none⟩ = some (.int .u32 (y : Int)) := by
  obtain ⟨b, off, x, e, hb, hx, hc⟩ := Sl.at_ h ha hk
  exact ⟨b, off, x.n, x.a, e, hb, hx, hc 0 _ rfl, hc 1 _ rfl⟩
def AddrTo (o : Option Nat) (w : World) (e : Ending) (w' : World) : Prop := e = .returned (.tuple #[.int .u32 ((o.getD 0 : Nat) : Int), .bool o.isSome]) ∧ w = w'
theorem address_nil (x : List UInt8) : address [] x = none := rfl
theorem address_at {L : List Sym} {k : Nat} {n : List UInt8} {a : Nat} (h : L[k]? = some ⟨n, a⟩) (x : List UInt8) : address (L.drop k) x = if n = x then some a else address (L.drop (k + 1)) x := by
  obtain ⟨hk, he⟩ := List.getElem?_eq_some_iff.1 h
  unfold address
  rw [List.drop_eq_getElem_cons hk, he, List.find?_cons]
  by_cases e : n = x
  · simp [e]
  · have e2 : (n == x) = false := by rw [beq_eq_false_iff_ne]; exact e
    simp [e, e2]
set_option maxHeartbeats 2000000 in
theorem address_any (A : Option Addr) (n cap : Nat) (L : List Sym) (x : ByteArray) (w : World) (h : Sl 2 symC w A n L) (hn : n ≤ 100000) (hcap : n ≤ cap) : Calls Tryz.prog 54 #[.slice A n cap, .string x] w (AddrTo (address L x.data.toList) w) := by
  obtain ⟨o, ho⟩ : ∃ o, address L x.data.toList = o := ⟨_, rfl⟩
  have HO : Is (address (L.drop 0) x.data.toList) o := ⟨ho⟩
  rw [ho]
  have HH := Lib.hid h
  clear ho h
  go_enter Tryz.func54, Tryz.ntmps54
  go_wp2
  go_loopw [6] (fun i wr => ∃ q : Nat, i = .int .i64 (q : Int) ∧ q ≤ n ∧ address (L.drop q) x.data.toList = o ∧ wr = w) (fun i _ => n - (RowKit.intOf i).toNat)
  case atStart => exact ⟨0, rfl, Nat.zero_le _, HO.out, rfl⟩
  case round =>
    clear HO
    obtain ⟨q, rfl, hq, hf, rfl⟩ := hrel
    by_cases hlt : q < n
    · have y1 : (q : Int) < n := by omega
      have y2 : (0 : Int) ≤ q := by omega
      obtain ⟨b, off, nm, a, rfl, hb, hx, c0, c1⟩ := symAt HH.out (Held.refl _) hlt
      rw [address_at hx] at hf
      have heq := ba_eq' x nm
      by_cases e : nm = x.data.toList
      · rw [if_pos e] at hf
        rw [decide_eq_true e] at heq
        subst hf
        clear e hx
        go_wp2
        go_ret2
        exact ⟨rfl, rfl⟩
      · rw [if_neg e] at hf
        rw [decide_eq_false e] at heq
        have HF := Lib.hid hf
        clear e hx hf
        go_wp2
        go_roundw
        case rel => exact ⟨q + 1, by go_num, by omega, HF.out, trivial⟩
        case measure => (simp [RowKit.intOf]) <;> omega
    · obtain rfl : q = n := by omega
      have y1 : ¬ (q : Int) < q := by omega
      have hl := HH.out.1
      rw [List.drop_of_length_le (by omega), address_nil] at hf
      subst hf
      clear HH hl
      go_wp2
      go_ret2
      exact ⟨rfl, rfl⟩
end As
end Go.Proofs.YtdacgdokbfcgdaaGreat

namespace Go.Proofs.YtdacgdokbfcgdaaGreat
open Go.RowKit Go.BigFrame Go.Lib
namespace As
theorem decL_digits : ∀ (l : List UInt8) (m v : Nat), decL m l = some v → ∀ c ∈ l, isD c = true
  | [], _, _, _, c, hc => by simp at hc
  | x :: l, m, v, h, c, hc => by
    unfold decL at h
    split at h
    · rename_i hx
      rcases List.mem_cons.1 hc with rfl | hc
      · exact hx
      · exact decL_digits l _ v h c hc
    · cases h
theorem isD_bd {c : UInt8} (h : isD c = true) : 48 ≤ c.toNat ∧ c.toNat ≤ 57 := by
  unfold isD at h
  simpa using h
theorem decL_step {m v : Nat} {s : ByteArray} {q : Nat} (hq : q < s.size) (h : decL m (s.data.toList.drop q) = some v) : isD s[q] = true ∧ decL (10 * m + (s[q].toNat - 48)) (s.data.toList.drop (q + 1)) = some v := by
  rw [By.drop_at s q hq, decL] at h
  split at h
  · rename_i hx; exact ⟨hx, h⟩
  · cases h
def NumTo (n : Nat) (w : World) (e : Ending) (w' : World) : Prop := e = .returned (.tuple #[.int .i64 (n : Int), .bool true]) ∧ w = w'
set_option maxHeartbeats 4000000 in
theorem number_any (s : ByteArray) (n : Nat) (h : number s.data.toList = some n) (w : World) : Calls Tryz.prog 135 #[.string s] w (NumTo n w) := by
  unfold number at h
  split at h
  · cases h
  rename_i hlen
  rw [len_b] at hlen
  have hl1 : 1 ≤ s.size := by omega
  have hl2 : s.size ≤ 10 := by omega
  have hd : decL 0 s.data.toList = some n ∧ n ≤ 4294967295 := by
    split at h
    · cases h
    · rename_i m hm
      split at h
      · injection h with h; subst h; exact ⟨hm, by assumption⟩
      · cases h
  clear h hlen
  have hall := decL_digits _ _ _ hd.1
  have hat : ∀ k (hk : k < s.size), 48 ≤ s[k].toNat ∧ s[k].toNat ≤ 57 := fun k hk => isD_bd (hall s[k] (by
    have : s.data.toList[k]'(by rw [len_b]; exact hk) = s[k] := rfl
    rw [← this]; exact List.getElem_mem _))
  have HD := Lib.hid hd
  have HAT := Lib.hid hat
  obtain ⟨c0, b0, i0⟩ : ∃ c : UInt8, (48 ≤ c.toNat ∧ c.toNat ≤ 57) ∧ ∀ w, (Instr.index 9 (.string s) (.int .i64 0)).run Tryz.prog w = .ok (.int .u8 (c.toNat : Int)) w := ⟨s[0], hat 0 (by omega), By.idx s 0 0 rfl (by omega)⟩
  have z1 : (1 : Int) ≤ s.size := by omega
  have z2 : (s.size : Int) ≤ 10 := by omega
  have z3 : (0 : Int) < s.size := by omega
  have z4 : ¬ (s.size : Int) < 1 := by omega
  have z5 : ¬ (10 : Int) < s.size := by omega
  have e45 : ((c0.toNat : Int) == 45) = false := by rw [beq_eq_false_iff_ne]; omega
  clear hd hall hat
  go_enter Tryz.func135, Tryz.ntmps135
  go_upto_region 1 with fail
  go_cut [21] (fun v wx => v = .bool false ∧ wx = w)
  case first =>
    by_cases g : (2 : Int) < s.size
    · obtain ⟨c1, b1, i1⟩ : ∃ c : UInt8, (48 ≤ c.toNat ∧ c.toNat ≤ 57) ∧ ∀ w, (Instr.index 9 (.string s) (.int .i64 1)).run Tryz.prog w = .ok (.int .u8 (c.toNat : Int)) w := ⟨s[1], HAT.out 1 (by omega), By.idx s 1 1 rfl (by omega)⟩
      have e120 : ((c1.toNat : Int) == 120) = false := by rw [beq_eq_false_iff_ne]; omega
      by_cases g2 : (c0.toNat : Int) = 48
      · have e48 : ((c0.toNat : Int) == 48) = true := by rw [beq_iff_eq]; exact g2
        clear g2
        go_wp2
        go_meet
        case rel => exact ⟨rfl, rfl⟩
      · have e48 : ((c0.toNat : Int) == 48) = false := by rw [beq_eq_false_iff_ne]; exact g2
        clear g2
        go_wp2
        go_meet
        case rel => exact ⟨rfl, rfl⟩
    · go_wp2
      go_meet
      case rel => exact ⟨rfl, rfl⟩
  case rest =>
    obtain ⟨rfl, rfl⟩ := hcut
    clear b0
    go_wp2
    go_loopw [7, 8] (fun a i wr => ∃ q m : Nat, a = .int .i64 (m : Int) ∧ i = .int .i64 (q : Int) ∧ q ≤ s.size ∧ m < 10 ^ q ∧ decL m (s.data.toList.drop q) = some n ∧ wr = wc) (fun _ i _ => s.size - (RowKit.intOf i).toNat)
    case atStart => exact ⟨0, 0, rfl, rfl, Nat.zero_le _, by decide, HD.out.1, rfl⟩
    case round =>
      obtain ⟨q, m, rfl, rfl, hq, hm, hdm, rfl⟩ := hrel
      have HM := Lib.hid hdm
      clear hdm
      by_cases hlt : q < s.size
      · have y1 : (q : Int) < s.size := by omega
        have y2 : (0 : Int) ≤ q := by omega
        obtain ⟨hx, hs⟩ := decL_step hlt HM.out
        obtain ⟨c, hc⟩ : ∃ c, s[q] = c := ⟨_, rfl⟩
        have ix := By.idx s (q : Int) q rfl hlt
        rw [hc] at hx hs ix
        have hb := isD_bd hx
        have HDG := Lib.hid fun w => digit_any c w
        rw [hx] at HDG
        have hm9 : m < 10 ^ 9 := Nat.lt_of_lt_of_le hm (Nat.pow_le_pow_right (by decide) (by omega))
        have m1 : (m : Int) < 1000000000 := by have : (10 : Nat) ^ 9 = 1000000000 := by decide
                                               omega
        have HS := Lib.hid hs
        have hm2 : 10 * m + (c.toNat - 48) < 10 ^ (q + 1) := by rw [Nat.pow_succ]; omega
        have HM2 := Lib.hid hm2
        have k1 : (c.toNat : Int) - 48 = ((c.toNat - 48 : Nat) : Int) := by omega
        clear hs hx hm hm9 hm2 hc HM
        go_wp2_with fail
        refine (HDG.out _).mono ?_
        rintro e w3 ⟨rfl, rfl⟩
        go_wp2
        go_roundw
        case rel => exact ⟨q + 1, 10 * m + (c.toNat - 48), by go_num, by go_num, by omega, HM2.out, HS.out, trivial⟩
        case measure => (simp [RowKit.intOf]) <;> omega
      · obtain rfl : q = s.size := by omega
        have y1 : ¬ (s.size : Int) < s.size := by omega
        have hmn : m = n := by
          have := HM.out
          rw [List.drop_of_length_le (by rw [len_b]; exact Nat.le_refl _), decL] at this
          injection this
        subst hmn
        have y3 : (m : Int) ≤ 4294967295 := by have := HD.out.2; omega
        have y4 : (-2147483648 : Int) ≤ m := by omega
        clear HM HD hm
        go_wp2
        go_ret2
        exact ⟨rfl, rfl⟩
end As
end Go.Proofs.YtdacgdokbfcgdaaGreat

namespace Go.Proofs.YtdacgdokbfcgdaaGreat
open Go.RowKit Go.BigFrame Go.Lib
namespace As
theorem info_arg : (Tryz.prog.info? 118).map (fun i => (i.zero, i.size, i.bytes)) = some (some (.agg #[.int .i64 0, .int .i64 0, .string ⟨#[]⟩]), 3, 32) := by kernel_rfl
def argC (x : Arg) : List Value := [.int .i64 (x.r : Int), .int .i64 (x.n : Int), .string ⟨x.l.toArray⟩]
theorem argC_len (x : Arg) : (argC x).length = 3 := rfl
theorem argC_one (x : Arg) : ∀ u ∈ argC x, u.oneCell' = true := by intro u hu; simp [argC] at hu; rcases hu with rfl | rfl | rfl <;> rfl
theorem tokAt2 {w a : World} {A : Option Addr} {n : Nat} {L : List Tok} (h : Sl 3 tokC w A n L) (ha : Held w a) {k : Nat} (hk : k < n) :
    ∃ b off x y z, A = some ⟨b, off, none⟩ ∧ b < w.heap.size ∧ L[k]? = some ⟨x, y, z⟩ ∧ a.cell? ⟨b, off + k * 3, none⟩ = some (.int .i64 (x : Int)) ∧ a.cell? ⟨b, off + k * 3 + 1, none⟩ = some (.string ⟨y.toArray⟩) ∧ a.cell? ⟨b, off + k * 3 + 2, none⟩ = some (.bool z) := by
  obtain ⟨b, off, x, e, hb, hx, hc⟩ := Sl.at_ h ha hk
  exact ⟨b, off, x.k, x.t, x.g, e, hb, hx, hc 0 _ rfl, hc 1 _ rfl, hc 2 _ rfl⟩
theorem argAt {w a : World} {A : Option Addr} {n : Nat} {L : List Arg} (h : Sl 3 argC w A n L) (ha : Held w a) {k : Nat} (hk : k < n) :
    ∃ b off x y z, A = some ⟨b, off, none⟩ ∧ b < w.heap.size ∧ L[k]? = some ⟨x, y, z⟩ ∧ a.cell? ⟨b, off + k * 3, none⟩ = some (.int .i64 (x : Int)) ∧ a.cell? ⟨b, off + k * 3 + 1, none⟩ = some (.int .i64 (y : Int)) ∧ a.cell? ⟨b, off + k * 3 + 2, none⟩ = some (.string ⟨z.toArray⟩) := by
  obtain ⟨b, off, x, e, hb, hx, hc⟩ := Sl.at_ h ha hk
  exact ⟨b, off, x.r, x.n, x.l, e, hb, hx, hc 0 _ rfl, hc 1 _ rfl, hc 2 _ rfl⟩
theorem match_step {t : Tok} {c : UInt8} {T : List Tok} {Q : List UInt8} {R : List Arg} (h : matchL (t :: T) (c :: Q) = some R) :
    ∃ o, argOf t c = some o ∧ ((o = none ∧ matchL T Q = some R) ∨ ∃ a R', o = some a ∧ R = a :: R' ∧ matchL T Q = some R') := by
  rw [matchL] at h
  cases e : argOf t c with
  | none => rw [e] at h; cases h
  | some o =>
    rw [e] at h
    cases o with
    | none => exact ⟨_, rfl, .inl ⟨rfl, h⟩⟩
    | some a =>
      simp only [Option.map_eq_some_iff] at h
      obtain ⟨R', hR, rfl⟩ := h
      exact ⟨_, rfl, .inr ⟨a, R', rfl, rfl, hR⟩⟩
theorem arg_cases {t : Tok} {c : UInt8} {o : Option Arg} (h : argOf t c = some o) :
    (c = 114 ∧ t.k = 1 ∧ ∃ r, regOf t.t = some r ∧ o = some ⟨r, 0, []⟩) ∨ (c = 120 ∧ t.k = 1 ∧ name t.t = true ∧ o = some ⟨0, 0, t.t⟩) ∨
    ((c = 110 ∨ c = 120) ∧ t.k = 2 ∧ ∃ n, number t.t = some n ∧ o = some ⟨0, n, []⟩) ∨ (c ≠ 114 ∧ c ≠ 110 ∧ c ≠ 120 ∧ t.k = 3 ∧ t.t = [c] ∧ o = none) := by
  unfold argOf at h
  split at h
  · rename_i hc
    split at h
    · rename_i r hr
      split at h
      · rename_i hk; injection h with h; exact .inl ⟨hc, hk, r, hr, h.symm⟩
      · cases h
    · cases h
  · rename_i hc1
    split at h
    · rename_i hc
      split at h
      · rename_i hx
        simp only [Bool.and_eq_true, decide_eq_true_eq] at hx
        injection h with h
        exact .inr (.inl ⟨hx.1.1, hx.1.2, hx.2, h.symm⟩)
      · split at h
        · rename_i n hn
          split at h
          · rename_i hk; injection h with h; exact .inr (.inr (.inl ⟨hc, hk, n, hn, h.symm⟩))
          · cases h
        · cases h
    · rename_i hc
      simp only [not_or] at hc
      split at h
      · rename_i hx
        simp only [Bool.and_eq_true, decide_eq_true_eq] at hx
        injection h with h
        exact .inr (.inr (.inr ⟨hc1, hc.1, hc.2, hx.1, hx.2, h.symm⟩))
      · cases h
theorem u8_ne {c d : UInt8} {n : Int} (h : c ≠ d) (hd : (d.toNat : Int) = n) : ((c.toNat : Int) == n) = false := by
  rw [beq_eq_false_iff_ne]
  intro e
  exact h (UInt8.toNat_inj.1 (by omega))
theorem name_len {l : List UInt8} (h : name l = true) : l.length ≤ 12 := by
  unfold name at h
  simp only [Bool.and_eq_true, decide_eq_true_eq] at h
  exact h.1.1.2
def MatTo (L : List Arg) (w : World) (e : Ending) (w' : World) : Prop := ∃ A n cap, e = .returned (.tuple #[.slice A n cap, .bool true]) ∧ Own 118 3 argC w.heap.size w' (.slice A n cap) L ∧ Held w w'
set_option maxHeartbeats 4000000 in
theorem matched_any (A : Option Addr) (n cap : Nat) (T : List Tok) (p : ByteArray) (L : List Arg) (w : World) (h : Sl 3 tokC w A n T) (hn : n ≤ 8192) (hcap : n ≤ cap) (hm : matched T p.data.toList = some L) : Calls Tryz.prog 108 #[.slice A n cap, .string p] w (MatTo L w) := by
  unfold matched at hm
  split at hm
  · cases hm
  rename_i hl
  have hlp : n = p.size := by
    have h1 := h.1
    rw [len_b] at hl
    omega
  have HT := Lib.hid h
  have HM := Lib.hid hm
  have z0 : ((n : Int) != p.size) = false := by rw [bne_eq_false_iff_eq]; omega
  have HLP : Is n p.size := ⟨hlp⟩
  have M0 := Lib.hid ((Mem.start w).nilRow (e := 118) (s := 3) (f := argC))
  clear h hl hm hlp
  go_enter Tryz.func108, Tryz.ntmps108
  go_wp2
  go_loopw [6, 7] (fun v i wr => ∃ (q : Nat) (L1 R : List Arg), i = .int .i64 (q : Int) ∧ q ≤ n ∧ L1.length ≤ q ∧ matchL (T.drop q) (p.data.toList.drop q) = some R ∧ L = L1 ++ R ∧ Mem w wr [.row 118 3 argC w.heap.size v L1]) (fun _ i _ => n - (RowKit.intOf i).toNat)
  case atStart => exact ⟨0, [], L, rfl, Nat.zero_le _, Nat.le_refl _, HM.out, rfl, M0.out⟩
  case round =>
    clear M0 HM
    obtain ⟨q, L1, R, rfl, hq, hl1, hm, hL, hM⟩ := hrel
    obtain ⟨A2, cap2, rfl, hcap2, _⟩ := (hM.row 0 rfl).shape
    obtain ⟨n1, hn1⟩ : ∃ n1, L1.length = n1 := ⟨_, rfl⟩
    have HN1 : Is L1.length n1 := ⟨hn1⟩
    rw [hn1] at hM hl1 hcap2 ⊢
    have HL := Lib.hid hL
    have M := Lib.hid hM
    clear hn1 hL hM
    by_cases hlt : q < n
    · have y1 : (q : Int) < n := by omega
      have y2 : (0 : Int) ≤ q := by omega
      have hlp : q < p.size := by have := HLP.out; omega
      have ix := By.idx p (q : Int) q rfl hlp
      obtain ⟨c, hcs⟩ : ∃ c, p[q] = c := ⟨_, rfl⟩
      rw [hcs] at ix
      obtain ⟨b, off, k, tx, gp, rfl, hb, hx, c0, c1, c2⟩ := tokAt2 HT.out M.out.held hlt
      have hd : T.drop q = ⟨k, tx, gp⟩ :: T.drop (q + 1) := by
        obtain ⟨hh, he⟩ := List.getElem?_eq_some_iff.1 hx
        rw [List.drop_eq_getElem_cons hh, he]
      rw [hd, By.drop_at p q hlp, hcs] at hm
      obtain ⟨o, ho, hstep⟩ := match_step hm
      have HC' := arg_cases ho
      dsimp only at HC'
      have HC := Lib.hid HC'
      have M1 := Lib.hid (M.out.alloc #[.int .i64 (k : Int), .string ⟨tx.toArray⟩, .bool gp] 190)
      have hb1 : (n1 + 1) * 32 ≤ 140737488355328 := by omega
      have hq1 : n1 + 1 ≤ q + 1 := by omega
      have hbl : b < wr.heap.size := Nat.lt_of_lt_of_le hb M.out.held.le
      have hbn : ¬ b = wr.heap.size := by omega
      clear hd hm ho hx hb HC'
      rcases HC.out with hc | hc | hc | hc
      · obtain ⟨rfl, hk, r, hr, rfl⟩ := hc
        rcases hstep with ⟨h, _⟩ | ⟨a, R', h, rfl, h6⟩
        · cases h
        injection h with h
        subst h
        have H6 := Lib.hid h6
        clear h6
        have HR := Lib.hid fun w => registerOf_any ⟨tx.toArray⟩ w
        unfold RegTo at HR
        rw [show (⟨tx.toArray⟩ : ByteArray).data.toList = tx by simp, hr] at HR
        have HRR : Hid (∀ w, Calls Tryz.prog 134 #[.string ⟨tx.toArray⟩] w fun e w' => e = .returned (.tuple #[.int .i64 (r : Int), .bool true]) ∧ Held w w') := HR
        have e114 : (((114 : UInt8).toNat : Int) == 114) = true := rfl
        have k1 : ((k : Int) == 1) = true := by rw [beq_iff_eq]; omega
        have k1' : ((k : Int) != 1) = false := by rw [bne_eq_false_iff_eq]; omega
        clear HR hr hk HC
        go_wp2_with fail
        refine (HRR.out _).mono ?_
        rintro e w3 ⟨rfl, h3⟩
        have M3 := Lib.hid (M1.out.keep h3)
        obtain ⟨⟨f0, f1, f2⟩, ⟨g0, g1, g2⟩, lt3⟩ := M3.out.box3 1 rfl
        clear h3
        have M4 := Lib.hid (M3.out.skip (.cells #[.int .i64 (r : Int), .int .i64 0, .string ⟨#[]⟩] 118))
        go_wp2_with (at_builtin; refine Mem.wp_app M4.out 0 rfl rfl _ _ _ rfl _ 32 Tryz.underlying114 info_arg rfl (by decide) argC_len argC_one ⟨r, 0, []⟩ ⟨_, 0, none⟩ 1 rfl rfl (cells_new _ rfl _ _) n1 HN1.out hb1 (by decide) ?_; intro g4 cp4 w4 M5'; have M5 := Lib.hid M5'; clear M5')
        go_roundw
        case rel => exact ⟨q + 1, L1 ++ [(⟨r, 0, []⟩ : Arg)], R', by go_num, by omega, by rw [List.length_append, HN1.out]; exact hq1, H6.out, by rw [HL.out, List.append_assoc]; rfl, M5.out.take 1⟩
        case measure => (simp [RowKit.intOf]) <;> omega
      · obtain ⟨rfl, hk, hn, rfl⟩ := hc
        rcases hstep with ⟨h, _⟩ | ⟨a, R', h, rfl, h6⟩
        · cases h
        injection h with h
        subst h
        have H6 := Lib.hid h6
        clear h6
        have HR := Lib.hid fun w => name_any ⟨tx.toArray⟩ (by have := name_len hn; show tx.toArray.size ≤ _; simp; omega) w
        unfold BoolTo at HR
        rw [show (⟨tx.toArray⟩ : ByteArray).data.toList = tx by simp, hn] at HR
        have e114 : (((120 : UInt8).toNat : Int) == 114) = false := rfl
        have e110 : (((120 : UInt8).toNat : Int) == 110) = false := rfl
        have e120 : (((120 : UInt8).toNat : Int) == 120) = true := rfl
        have k1 : ((k : Int) == 1) = true := by rw [beq_iff_eq]; omega
        clear hn hk HC
        go_wp2_with fail
        refine (HR.out _).mono ?_
        rintro e w3 ⟨rfl, h3⟩
        have M3 := Lib.hid (M1.out.keep h3)
        obtain ⟨⟨f0, f1, f2⟩, ⟨g0, g1, g2⟩, lt3⟩ := M3.out.box3 1 rfl
        clear h3
        have M4 := Lib.hid (M3.out.skip (.cells #[.int .i64 0, .int .i64 0, .string ⟨tx.toArray⟩] 118))
        go_wp2_with (at_builtin; refine Mem.wp_app M4.out 0 rfl rfl _ _ _ rfl _ 32 Tryz.underlying114 info_arg rfl (by decide) argC_len argC_one ⟨0, 0, tx⟩ ⟨_, 0, none⟩ 1 rfl rfl (cells_new _ rfl _ _) n1 HN1.out hb1 (by decide) ?_; intro g4 cp4 w4 M5'; have M5 := Lib.hid M5'; clear M5')
        go_roundw
        case rel => exact ⟨q + 1, L1 ++ [(⟨0, 0, tx⟩ : Arg)], R', by go_num, by omega, by rw [List.length_append, HN1.out]; exact hq1, H6.out, by rw [HL.out, List.append_assoc]; rfl, M5.out.take 1⟩
        case measure => (simp [RowKit.intOf]) <;> omega
      · obtain ⟨hc, hk, m, hn, rfl⟩ := hc
        rcases hstep with ⟨h, _⟩ | ⟨a, R', h, rfl, h6⟩
        · cases h
        injection h with h
        subst h
        have H6 := Lib.hid h6
        clear h6
        rcases hc with rfl | rfl
        · have e114 : (((110 : UInt8).toNat : Int) == 114) = false := rfl
          have e110 : (((110 : UInt8).toNat : Int) == 110) = true := rfl
          have e120 : (((110 : UInt8).toNat : Int) == 120) = false := rfl
          have HR := Lib.hid fun w => number_any ⟨tx.toArray⟩ m (by rw [show (⟨tx.toArray⟩ : ByteArray).data.toList = tx by simp]; exact hn) w
          unfold NumTo at HR
          have k1 : ((k : Int) == 1) = false := by rw [beq_eq_false_iff_ne]; omega
          have k2' : ((k : Int) != 2) = false := by rw [bne_eq_false_iff_eq]; omega
          clear hn hk HC
          go_wp2_with fail
          refine (HR.out _).mono ?_
          rintro e w3 ⟨rfl, rfl⟩
          have M3 := M1
          have M4 := Lib.hid (M3.out.skip (.cells #[.int .i64 0, .int .i64 (m : Int), .string ⟨#[]⟩] 118))
          go_wp2_with (at_builtin; refine Mem.wp_app M4.out 0 rfl rfl _ _ _ rfl _ 32 Tryz.underlying114 info_arg rfl (by decide) argC_len argC_one ⟨0, m, []⟩ ⟨wr.heap.size + 1, 0, none⟩ 1 rfl rfl (cells_new _ (by simp) _ _) n1 HN1.out hb1 (by decide) ?_; intro g4 cp4 w4 M5'; have M5 := Lib.hid M5'; clear M5')
          go_roundw
          case rel => exact ⟨q + 1, L1 ++ [(⟨0, m, []⟩ : Arg)], R', by go_num, by omega, by rw [List.length_append, HN1.out]; exact hq1, H6.out, by rw [HL.out, List.append_assoc]; rfl, M5.out.take 1⟩
          case measure => (simp [RowKit.intOf]) <;> omega
        · have e114 : (((120 : UInt8).toNat : Int) == 114) = false := rfl
          have e110 : (((120 : UInt8).toNat : Int) == 110) = false := rfl
          have e120 : (((120 : UInt8).toNat : Int) == 120) = true := rfl
          have HR := Lib.hid fun w => number_any ⟨tx.toArray⟩ m (by rw [show (⟨tx.toArray⟩ : ByteArray).data.toList = tx by simp]; exact hn) w
          unfold NumTo at HR
          have k1 : ((k : Int) == 1) = false := by rw [beq_eq_false_iff_ne]; omega
          have k2' : ((k : Int) != 2) = false := by rw [bne_eq_false_iff_eq]; omega
          clear hn hk HC
          go_wp2_with fail
          refine (HR.out _).mono ?_
          rintro e w3 ⟨rfl, rfl⟩
          have M3 := M1
          have M4 := Lib.hid (M3.out.skip (.cells #[.int .i64 0, .int .i64 (m : Int), .string ⟨#[]⟩] 118))
          go_wp2_with (at_builtin; refine Mem.wp_app M4.out 0 rfl rfl _ _ _ rfl _ 32 Tryz.underlying114 info_arg rfl (by decide) argC_len argC_one ⟨0, m, []⟩ ⟨wr.heap.size + 1, 0, none⟩ 1 rfl rfl (cells_new _ (by simp) _ _) n1 HN1.out hb1 (by decide) ?_; intro g4 cp4 w4 M5'; have M5 := Lib.hid M5'; clear M5')
          go_roundw
          case rel => exact ⟨q + 1, L1 ++ [(⟨0, m, []⟩ : Arg)], R', by go_num, by omega, by rw [List.length_append, HN1.out]; exact hq1, H6.out, by rw [HL.out, List.append_assoc]; rfl, M5.out.take 1⟩
          case measure => (simp [RowKit.intOf]) <;> omega
      · obtain ⟨n1', n2', n3', hk, rfl, rfl⟩ := hc
        rcases hstep with ⟨_, h6⟩ | ⟨a, R', h, _⟩
        rotate_left
        · cases h
        have H6 := Lib.hid h6
        have e114 : ((c.toNat : Int) == 114) = false := by exact u8_ne n1' rfl
        have e110 : ((c.toNat : Int) == 110) = false := by exact u8_ne n2' rfl
        have e120 : ((c.toNat : Int) == 120) = false := by exact u8_ne n3' rfl
        have k3 : ((k : Int) != 3) = false := by rw [bne_eq_false_iff_eq]; omega
        have hx := ext_take p q (q + 1)
        rw [show q + 1 - q = 1 by omega, By.drop_at p q hlp, hcs] at hx
        simp only [List.take_succ_cons, List.take_zero] at hx
        have hcut1 : (q : Int) + 1 ≤ p.size := by omega
        obtain ⟨⟨f0, f1, f2⟩, ⟨g0, g1, g2⟩, lt3⟩ := M1.out.box3 1 rfl
        clear n1' n2' n3' hk h6 HC
        go_wp2
        go_big_quiet (fail)
        go_wp2
        go_roundw
        case rel => exact ⟨q + 1, L1, R, by go_num, by omega, by rw [HN1.out]; omega, H6.out, HL.out, (M1.out.take 1).keep ((Held.refl _).drewN _)⟩
        case measure => (simp [RowKit.intOf]) <;> omega
    · obtain rfl : q = n := by omega
      have y1 : ¬ (q : Int) < q := by omega
      have hR : R = [] := by
        have hl := HT.out.1
        rw [List.drop_of_length_le (by omega), List.drop_of_length_le (by rw [len_b]; have := HLP.out; omega)] at hm
        simpa [matchL] using hm.symm
      have HLL : Is L L1 := ⟨by rw [HL.out, hR, List.append_nil]⟩
      clear HL HT hR hm
      go_wp2
      go_ret2
      exact ⟨_, _, _, rfl, by rw [HLL.out]; exact M.out.row 0 rfl, M.out.held⟩
end As
end Go.Proofs.YtdacgdokbfcgdaaGreat

namespace Go.Proofs.YtdacgdokbfcgdaaGreat
open Go.RowKit Go.BigFrame Go.Lib
namespace As
def PatTo (o : Option (List UInt8)) (w : World) (e : Ending) (w' : World) : Prop := e = .returned (.tuple #[.string ⟨(o.getD []).toArray⟩, .bool o.isSome]) ∧ Held w w'
theorem PatTo.mk {o : Option (List UInt8)} {w w' : World} {l : List UInt8} {b : Bool} (h : o = if b = true then some l else none) (h2 : b = false → l = []) (k : Held w w') : PatTo o w (.returned (.tuple #[.string ⟨l.toArray⟩, .bool b])) w' := by
  subst h
  cases b
  · rw [h2 rfl]; exact ⟨rfl, k⟩
  · exact ⟨rfl, k⟩
theorem opFrom_le (s : List UInt8) : ∀ n q, q + n ≤ 65 → opFrom s n q ≤ 64
  | 0, _, _ => Nat.zero_le _
  | n + 1, q, h => by
    unfold opFrom
    split
    · omega
    · exact opFrom_le s n (q + 1) (by omega)
set_option maxHeartbeats 4000000 in
theorem pattern_any (s : ByteArray) (w : World) : Calls Tryz.prog 107 #[.string s] w (PatTo (pattern s.data.toList) w) := by
  have HOP := Lib.hid (operation_any s w)
  unfold NatTo at HOP
  have hle : operation s.data.toList ≤ 64 := opFrom_le _ _ _ (by decide)
  obtain ⟨v, hv⟩ : ∃ v, pattern s.data.toList = v := ⟨_, rfl⟩
  rw [hv]
  unfold pattern at hv
  have e1 := ba_eq s [46, 119, 111, 114, 100]
  have e2 := ba_eq s [46, 115, 112, 97, 99, 101]
  have e3 := ba_eq s [108, 105]
  have e4 := ba_eq s [109, 118]
  have e5 := ba_eq s [110, 111, 112]
  by_cases h1 : s.data.toList = [46, 119, 111, 114, 100]
  · rw [if_pos h1] at hv
    rw [decide_eq_true h1] at e1
    have HV : Is v _ := ⟨hv.symm⟩
    clear e2 e3 e4 e5 hv h1 hle
    go_enter Tryz.func107, Tryz.ntmps107
    go_wp2_with fail
    refine HOP.out.mono ?_
    rintro e w2 ⟨rfl, h2⟩
    go_wp2
    go_ret2
    exact PatTo.mk HV.out (fun h => by cases h) h2
  rw [if_neg h1] at hv
  rw [decide_eq_false h1] at e1
  clear h1
  by_cases h2 : s.data.toList = [46, 115, 112, 97, 99, 101]
  · rw [if_pos h2] at hv
    rw [decide_eq_true h2] at e2
    have HV : Is v _ := ⟨hv.symm⟩
    clear e3 e4 e5 hv h2 hle
    go_enter Tryz.func107, Tryz.ntmps107
    go_wp2_with fail
    refine HOP.out.mono ?_
    rintro e w2 ⟨rfl, h2⟩
    go_wp2
    go_ret2
    exact PatTo.mk HV.out (fun h => by cases h) h2
  rw [if_neg h2] at hv
  rw [decide_eq_false h2] at e2
  clear h2
  by_cases h3 : s.data.toList = [108, 105]
  · rw [if_pos h3] at hv
    rw [decide_eq_true h3] at e3
    have HV : Is v _ := ⟨hv.symm⟩
    clear e4 e5 hv h3 hle
    go_enter Tryz.func107, Tryz.ntmps107
    go_wp2_with fail
    refine HOP.out.mono ?_
    rintro e w2 ⟨rfl, h2⟩
    go_wp2
    go_ret2
    exact PatTo.mk HV.out (fun h => by cases h) h2
  rw [if_neg h3] at hv
  rw [decide_eq_false h3] at e3
  clear h3
  by_cases h4 : s.data.toList = [109, 118]
  · rw [if_pos h4] at hv
    rw [decide_eq_true h4] at e4
    have HV : Is v _ := ⟨hv.symm⟩
    clear e5 hv h4 hle
    go_enter Tryz.func107, Tryz.ntmps107
    go_wp2_with fail
    refine HOP.out.mono ?_
    rintro e w2 ⟨rfl, h2⟩
    go_wp2
    go_ret2
    exact PatTo.mk HV.out (fun h => by cases h) h2
  rw [if_neg h4] at hv
  rw [decide_eq_false h4] at e4
  clear h4
  by_cases h5 : s.data.toList = [110, 111, 112]
  · rw [if_pos h5] at hv
    rw [decide_eq_true h5] at e5
    have HV : Is v _ := ⟨hv.symm⟩
    clear  hv h5 hle
    go_enter Tryz.func107, Tryz.ntmps107
    go_wp2_with fail
    refine HOP.out.mono ?_
    rintro e w2 ⟨rfl, h2⟩
    go_wp2
    go_ret2
    exact PatTo.mk HV.out (fun h => by cases h) h2
  rw [if_neg h5] at hv
  rw [decide_eq_false h5] at e5
  clear h5
  have HF := Lib.hid fun w => form_any (operation s.data.toList) hle w
  generalize operation s.data.toList = o at HOP HF hv hle
  have b1 : (o : Int) ≤ 64 := by omega
  by_cases c0 : o = 0
  · subst c0
    rw [if_pos rfl] at hv
    have HV : Is v (if false = true then some [] else none) := ⟨hv.symm⟩
    clear hv hle
    go_enter Tryz.func107, Tryz.ntmps107
    go_wp2_with fail
    refine HOP.out.mono ?_
    rintro e w2 ⟨rfl, h2⟩
    go_wp2
    go_ret2
    exact PatTo.mk HV.out (fun h => by first | rfl | cases h) h2
  rw [if_neg c0] at hv
  have d0 : ((o : Int) == 0) = false := by rw [beq_eq_false_iff_ne]; omega
  by_cases c1 : 32 ≤ o ∧ o ≤ 36
  · have z1 : (32 : Int) ≤ o := by omega
    have z2 : (o : Int) ≤ 36 := by omega
    rw [if_pos c1] at hv
    have HV : Is v _ := ⟨hv.symm⟩
    clear hv hle c0 c1
    go_enter Tryz.func107, Tryz.ntmps107
    go_wp2_with fail
    refine HOP.out.mono ?_
    rintro e w2 ⟨rfl, h2⟩
    go_wp2
    go_ret2
    exact PatTo.mk HV.out (fun h => by first | rfl | cases h) h2
  rw [if_neg c1] at hv
  have d1 : (decide ((32 : Int) ≤ o) && decide ((o : Int) ≤ 36)) = false := by by_cases g : (32 : Int) ≤ o <;> simp [g] <;> omega
  by_cases c2 : 40 ≤ o ∧ o ≤ 45
  · have z1 : (40 : Int) ≤ o := by omega
    have z2 : (o : Int) ≤ 45 := by omega
    have z3 : ¬ (o : Int) ≤ 36 := by omega
    have z4 : (32 : Int) ≤ o := by omega
    rw [if_pos c2] at hv
    have HV : Is v _ := ⟨hv.symm⟩
    clear hv hle c0 c1 c2
    go_enter Tryz.func107, Tryz.ntmps107
    go_wp2_with fail
    refine HOP.out.mono ?_
    rintro e w2 ⟨rfl, h2⟩
    go_wp2
    go_ret2
    exact PatTo.mk HV.out (fun h => by first | rfl | cases h) h2
  rw [if_neg c2] at hv
  by_cases c3 : o = 48
  · subst c3
    rw [if_pos rfl] at hv
    have HV : Is v _ := ⟨hv.symm⟩
    clear hv hle c0 c1 c2
    go_enter Tryz.func107, Tryz.ntmps107
    go_wp2_with fail
    refine HOP.out.mono ?_
    rintro e w2 ⟨rfl, h2⟩
    go_wp2
    go_ret2
    exact PatTo.mk HV.out (fun h => by first | rfl | cases h) h2
  rw [if_neg c3] at hv
  have d3 : ((o : Int) == 48) = false := by rw [beq_eq_false_iff_ne]; omega
  obtain ⟨f, hf⟩ : ∃ f, form o = f := ⟨_, rfl⟩
  rw [hf] at hv HF
  clear hf
  rcases (by omega : (o < 32 ∧ o ≠ 0) ∨ (36 < o ∧ o < 40) ∨ (45 < o ∧ o ≠ 48)) with ⟨g1, g2⟩ | ⟨g1, g2⟩ | ⟨g1, g2⟩
  · have z1 : ¬ (32 : Int) ≤ o := by omega
    have z3 : ¬ (40 : Int) ≤ o := by omega
    clear c0 c1 c2 c3 d1 g1 g2
    by_cases f1 : f = 1
    · subst f1
      rw [if_pos rfl] at hv
      have HV : Is v _ := ⟨hv.symm⟩
      clear hv hle
      go_enter Tryz.func107, Tryz.ntmps107
      go_wp2_with fail
      refine HOP.out.mono ?_
      rintro e w2 ⟨rfl, h2⟩
      go_wp2_with fail
      refine (HF.out _).mono ?_
      rintro e w3 ⟨rfl, rfl⟩
      go_wp2
      go_ret2
      exact PatTo.mk HV.out (fun h => by first | rfl | cases h) h2
    rw [if_neg f1] at hv
    have u1 : ((f : Int) == 1) = false := by rw [beq_eq_false_iff_ne]; omega
    by_cases f2 : f = 2
    · subst f2
      rw [if_pos rfl] at hv
      have HV : Is v _ := ⟨hv.symm⟩
      clear hv hle f1
      go_enter Tryz.func107, Tryz.ntmps107
      go_wp2_with fail
      refine HOP.out.mono ?_
      rintro e w2 ⟨rfl, h2⟩
      go_wp2_with fail
      refine (HF.out _).mono ?_
      rintro e w3 ⟨rfl, rfl⟩
      go_wp2
      go_ret2
      exact PatTo.mk HV.out (fun h => by first | rfl | cases h) h2
    rw [if_neg f2] at hv
    have u2 : ((f : Int) == 2) = false := by rw [beq_eq_false_iff_ne]; omega
    by_cases f6 : 6 ≤ f
    · have u6 : (6 : Int) ≤ f := by omega
      rw [if_pos f6] at hv
      have HV : Is v _ := ⟨hv.symm⟩
      clear hv hle f1 f2 f6
      go_enter Tryz.func107, Tryz.ntmps107
      go_wp2_with fail
      refine HOP.out.mono ?_
      rintro e w2 ⟨rfl, h2⟩
      go_wp2_with fail
      refine (HF.out _).mono ?_
      rintro e w3 ⟨rfl, rfl⟩
      go_wp2
      go_ret2
      exact PatTo.mk HV.out (fun h => by first | rfl | cases h) h2
    rw [if_neg f6] at hv
    have u6 : ¬ (6 : Int) ≤ f := by omega
    have HV : Is v _ := ⟨hv.symm⟩
    clear hv hle f1 f2 f6
    go_enter Tryz.func107, Tryz.ntmps107
    go_wp2_with fail
    refine HOP.out.mono ?_
    rintro e w2 ⟨rfl, h2⟩
    go_wp2_with fail
    refine (HF.out _).mono ?_
    rintro e w3 ⟨rfl, rfl⟩
    go_wp2
    go_ret2
    exact PatTo.mk HV.out (fun h => by first | rfl | cases h) h2
  · have z1 : (32 : Int) ≤ o := by omega
    have z2 : ¬ (o : Int) ≤ 36 := by omega
    have z3 : ¬ (40 : Int) ≤ o := by omega
    clear c0 c1 c2 c3 d1 g1 g2
    by_cases f1 : f = 1
    · subst f1
      rw [if_pos rfl] at hv
      have HV : Is v _ := ⟨hv.symm⟩
      clear hv hle
      go_enter Tryz.func107, Tryz.ntmps107
      go_wp2_with fail
      refine HOP.out.mono ?_
      rintro e w2 ⟨rfl, h2⟩
      go_wp2_with fail
      refine (HF.out _).mono ?_
      rintro e w3 ⟨rfl, rfl⟩
      go_wp2
      go_ret2
      exact PatTo.mk HV.out (fun h => by first | rfl | cases h) h2
    rw [if_neg f1] at hv
    have u1 : ((f : Int) == 1) = false := by rw [beq_eq_false_iff_ne]; omega
    by_cases f2 : f = 2
    · subst f2
      rw [if_pos rfl] at hv
      have HV : Is v _ := ⟨hv.symm⟩
      clear hv hle f1
      go_enter Tryz.func107, Tryz.ntmps107
      go_wp2_with fail
      refine HOP.out.mono ?_
      rintro e w2 ⟨rfl, h2⟩
      go_wp2_with fail
      refine (HF.out _).mono ?_
      rintro e w3 ⟨rfl, rfl⟩
      go_wp2
      go_ret2
      exact PatTo.mk HV.out (fun h => by first | rfl | cases h) h2
    rw [if_neg f2] at hv
    have u2 : ((f : Int) == 2) = false := by rw [beq_eq_false_iff_ne]; omega
    by_cases f6 : 6 ≤ f
    · have u6 : (6 : Int) ≤ f := by omega
      rw [if_pos f6] at hv
      have HV : Is v _ := ⟨hv.symm⟩
      clear hv hle f1 f2 f6
      go_enter Tryz.func107, Tryz.ntmps107
      go_wp2_with fail
      refine HOP.out.mono ?_
      rintro e w2 ⟨rfl, h2⟩
      go_wp2_with fail
      refine (HF.out _).mono ?_
      rintro e w3 ⟨rfl, rfl⟩
      go_wp2
      go_ret2
      exact PatTo.mk HV.out (fun h => by first | rfl | cases h) h2
    rw [if_neg f6] at hv
    have u6 : ¬ (6 : Int) ≤ f := by omega
    have HV : Is v _ := ⟨hv.symm⟩
    clear hv hle f1 f2 f6
    go_enter Tryz.func107, Tryz.ntmps107
    go_wp2_with fail
    refine HOP.out.mono ?_
    rintro e w2 ⟨rfl, h2⟩
    go_wp2_with fail
    refine (HF.out _).mono ?_
    rintro e w3 ⟨rfl, rfl⟩
    go_wp2
    go_ret2
    exact PatTo.mk HV.out (fun h => by first | rfl | cases h) h2
  · have z1 : (32 : Int) ≤ o := by omega
    have z2 : ¬ (o : Int) ≤ 36 := by omega
    have z3 : (40 : Int) ≤ o := by omega
    have z4 : ¬ (o : Int) ≤ 45 := by omega
    clear c0 c1 c2 c3 d1 g1 g2
    by_cases f1 : f = 1
    · subst f1
      rw [if_pos rfl] at hv
      have HV : Is v _ := ⟨hv.symm⟩
      clear hv hle
      go_enter Tryz.func107, Tryz.ntmps107
      go_wp2_with fail
      refine HOP.out.mono ?_
      rintro e w2 ⟨rfl, h2⟩
      go_wp2_with fail
      refine (HF.out _).mono ?_
      rintro e w3 ⟨rfl, rfl⟩
      go_wp2
      go_ret2
      exact PatTo.mk HV.out (fun h => by first | rfl | cases h) h2
    rw [if_neg f1] at hv
    have u1 : ((f : Int) == 1) = false := by rw [beq_eq_false_iff_ne]; omega
    by_cases f2 : f = 2
    · subst f2
      rw [if_pos rfl] at hv
      have HV : Is v _ := ⟨hv.symm⟩
      clear hv hle f1
      go_enter Tryz.func107, Tryz.ntmps107
      go_wp2_with fail
      refine HOP.out.mono ?_
      rintro e w2 ⟨rfl, h2⟩
      go_wp2_with fail
      refine (HF.out _).mono ?_
      rintro e w3 ⟨rfl, rfl⟩
      go_wp2
      go_ret2
      exact PatTo.mk HV.out (fun h => by first | rfl | cases h) h2
    rw [if_neg f2] at hv
    have u2 : ((f : Int) == 2) = false := by rw [beq_eq_false_iff_ne]; omega
    by_cases f6 : 6 ≤ f
    · have u6 : (6 : Int) ≤ f := by omega
      rw [if_pos f6] at hv
      have HV : Is v _ := ⟨hv.symm⟩
      clear hv hle f1 f2 f6
      go_enter Tryz.func107, Tryz.ntmps107
      go_wp2_with fail
      refine HOP.out.mono ?_
      rintro e w2 ⟨rfl, h2⟩
      go_wp2_with fail
      refine (HF.out _).mono ?_
      rintro e w3 ⟨rfl, rfl⟩
      go_wp2
      go_ret2
      exact PatTo.mk HV.out (fun h => by first | rfl | cases h) h2
    rw [if_neg f6] at hv
    have u6 : ¬ (6 : Int) ≤ f := by omega
    have HV : Is v _ := ⟨hv.symm⟩
    clear hv hle f1 f2 f6
    go_enter Tryz.func107, Tryz.ntmps107
    go_wp2_with fail
    refine HOP.out.mono ?_
    rintro e w2 ⟨rfl, h2⟩
    go_wp2_with fail
    refine (HF.out _).mono ?_
    rintro e w3 ⟨rfl, rfl⟩
    go_wp2
    go_ret2
    exact PatTo.mk HV.out (fun h => by first | rfl | cases h) h2
end As
end Go.Proofs.YtdacgdokbfcgdaaGreat

namespace Go.Proofs.YtdacgdokbfcgdaaGreat
open Go.RowKit Go.BigFrame Go.Lib
namespace As
theorem toks_len : ∀ (n : Nat) (g : Bool) (s : List UInt8) (R : List Tok), toks n g s = some R → R.length ≤ s.length
  | _, _, [], R, h => by cases R with
    | nil => exact Nat.le_refl _
    | cons a l => unfold toks at h; cases h
  | 0, _, _ :: _, R, h => by unfold toks at h; cases h
  | n + 1, g, c :: r, R, h => by
    have hd : (r.dropWhile isW).length ≤ r.length := (List.dropWhile_sublist _).length_le
    rw [toks] at h
    split at h
    · have := toks_len n true r R h
      simp only [List.length_cons]; omega
    · split at h
      · obtain ⟨R', hR, rfl⟩ := Option.map_eq_some_iff.1 h
        have := toks_len n false _ R' hR
        simp only [List.length_cons]; omega
      · split at h
        · obtain ⟨R', hR, rfl⟩ := Option.map_eq_some_iff.1 h
          have := toks_len n false _ R' hR
          simp only [List.length_cons]; omega
        · split at h
          · obtain ⟨R', hR, rfl⟩ := Option.map_eq_some_iff.1 h
            have := toks_len n false _ R' hR
            simp only [List.length_cons]; omega
          · cases h
/-- A statement's parts. -/
theorem stm_cases {T : List Tok} {st : Stm} (h : stmOf T = some st) : ∃ t r p a, T = t :: r ∧ t.t ≠ [46] ∧ t.t ≠ [] ∧ pattern t.t = some p ∧ (∀ v r', r = v :: r' → v.g = true) ∧ matched r p = some a ∧ t.t ≠ [46, 115, 112, 97, 99, 101] ∧
    st = ⟨t.t, operation t.t, a, 0, 0, if t.t = [108, 105] then 2 else 1⟩ := by
  cases T with
  | nil => cases h
  | cons t r =>
    by_cases h1 : t.t = [46] ∨ t.t = []
    · simp [stmOf, h1] at h
    have h2 := h1
    simp only [not_or] at h2
    have key : ∃ p, pattern t.t = some p ∧ (∀ v r', r = v :: r' → v.g = true) ∧ (match matched r p with | none => none | some a => if t.t = [46, 115, 112, 97, 99, 101] then none else some (⟨t.t, operation t.t, a, 0, 0, if t.t = [108, 105] then 2 else 1⟩ : Stm)) = some st := by
      cases hp : pattern t.t with
      | none => simp [stmOf, h1, hp] at h
      | some p =>
        refine ⟨p, rfl, ?_⟩
        cases r with
        | nil =>
          simp only [stmOf, if_neg h1, hp, Bool.false_eq_true, if_false] at h
          exact ⟨fun v r' e => (by cases e), h⟩
        | cons v r' =>
          simp only [stmOf, if_neg h1, hp] at h
          by_cases e : v.g = true
          · simp only [e, Bool.not_true, Bool.false_eq_true, if_false] at h
            exact ⟨fun v' r'' e' => (by injection e' with e1 _; subst e1; exact e), h⟩
          · simp only [Bool.not_eq_true] at e
            simp [e] at h
    obtain ⟨p, hp, hgap, h⟩ := key
    cases ha : matched r p with
    | none => rw [ha] at h; cases h
    | some a =>
      rw [ha] at h
      simp only at h
      by_cases hs : t.t = [46, 115, 112, 97, 99, 101]
      · rw [if_pos hs] at h; cases h
      · rw [if_neg hs] at h
        injection h with h
        exact ⟨t, r, p, a, rfl, h2.1, h2.2, hp, hgap, ha, hs, h.symm⟩
theorem par_cases {s : List UInt8} {lb : List UInt8} {st : Stm} (h : parsed s = some (lb, st)) : (∀ c ∈ s, c ≠ 59) ∧ ∃ L T, tokens s = some L ∧ stmOf T = some st ∧
    ((∃ t u, L = t :: u :: T ∧ u.t = [58] ∧ t.k = 1 ∧ name t.t = true ∧ lb = t.t) ∨ (T = L ∧ lb = [] ∧ ∀ t u r, L = t :: u :: r → u.t ≠ [58])) := by
  unfold parsed at h
  split at h
  · cases h
  rename_i h1
  split at h
  · cases h
  rename_i L hL
  refine ⟨fun c hc e => h1 (List.any_eq_true.2 ⟨c, hc, by simp [e]⟩), L, ?_⟩
  split at h
  · rename_i t u r
    split at h
    · rename_i hu
      split at h
      · rename_i hn
        simp only [Bool.and_eq_true, decide_eq_true_eq] at hn
        obtain ⟨st', hs, he⟩ := Option.map_eq_some_iff.1 h
        injection he with e1 e2
        subst e1 e2
        exact ⟨r, hL, hs, .inl ⟨t, u, rfl, hu, hn.1, hn.2, rfl⟩⟩
      · cases h
    · rename_i hu
      obtain ⟨st', hs, he⟩ := Option.map_eq_some_iff.1 h
      injection he with e1 e2
      subst e1 e2
      exact ⟨_, hL, hs, .inr ⟨rfl, rfl, fun t' u' r' e => by injection e with _ e; injection e with e _; subst e; exact hu⟩⟩
  · rename_i hn
    obtain ⟨st', hs, he⟩ := Option.map_eq_some_iff.1 h
    injection he with e1 e2
    subst e1 e2
    exact ⟨_, hL, hs, .inr ⟨rfl, rfl, fun t' u' r' e => absurd e (hn t' u' r')⟩⟩
theorem iTok : ∃ i0, Tryz.prog.info? 190 = some i0 ∧ i0.size = 3 := by
  obtain ⟨i0, h, _, h2, _⟩ := info_parts info_tok
  exact ⟨i0, h, h2⟩
/-- Tokens from one on, as a slice. -/
theorem tok_drop {w : World} {A : Option Addr} {n cap : Nat} {L : List Tok} (h : Sl 3 tokC w A n L) (hc : n ≤ cap) (j : Nat) (jj : Int) (hjj : jj = j) (hj : j ≤ n) (hn : 0 < n) :
    ∃ A2 : Option Addr, (∀ w', (Instr.slice 186 (.slice A n cap) (some (.int .i64 jj)) none none).run Tryz.prog w' = .ok (.slice A2 (n - j) (cap - j)) w') ∧ Sl 3 tokC w A2 (n - j) (L.drop j) := by
  subst hjj
  rcases h.2 with h0 | ⟨b, off, rfl, _⟩
  · omega
  obtain ⟨i0, hi, hs⟩ := iTok
  refine ⟨_, fun w' => Sg.slice_from Tryz.underlying186 hi hs b off n cap j hj hc w', ?_⟩
  by_cases he : cap = j
  · have hz : n - j = 0 := by omega
    have hl := h.1
    rw [hz]
    have : L.drop j = [] := List.drop_of_length_le (by omega)
    rw [this]
    exact Sl.nil w _
  · rw [if_neg he]
    exact Sl.drop h hj
theorem tok0 {w : World} {A : Option Addr} {n : Nat} {L : List Tok} (h : Sl 3 tokC w A n L) (hk : 0 < n) :
    ∃ (b off x : Nat) (y : List UInt8) (z : Bool), A = some ⟨b, off, none⟩ ∧ b < w.heap.size ∧ L[0]? = some ⟨x, y, z⟩ ∧ w.cell? ⟨b, off, none⟩ = some (.int .i64 (x : Int)) ∧ w.cell? ⟨b, off + 1, none⟩ = some (.string ⟨y.toArray⟩) ∧ w.cell? ⟨b, off + 2, none⟩ = some (.bool z) := by
  obtain ⟨b, off, x, y, z, h1, h2, h3, c0, c1, c2⟩ := tokAt2 h (Held.refl w) hk
  simp only [Nat.zero_mul, Nat.add_zero] at c0 c1 c2
  exact ⟨b, off, x, y, z, h1, h2, h3, c0, c1, c2⟩
theorem tok1 {w : World} {A : Option Addr} {n : Nat} {L : List Tok} (h : Sl 3 tokC w A n L) (hk : 1 < n) :
    ∃ (b off x : Nat) (y : List UInt8) (z : Bool), A = some ⟨b, off, none⟩ ∧ b < w.heap.size ∧ L[1]? = some ⟨x, y, z⟩ ∧ w.cell? ⟨b, off + 3, none⟩ = some (.int .i64 (x : Int)) ∧ w.cell? ⟨b, off + 3 + 1, none⟩ = some (.string ⟨y.toArray⟩) ∧ w.cell? ⟨b, off + 3 + 2, none⟩ = some (.bool z) := by
  obtain ⟨b, off, x, y, z, h1, h2, h3, c0, c1, c2⟩ := tokAt2 h (Held.refl w) hk
  simp only [Nat.one_mul] at c0 c1 c2
  exact ⟨b, off, x, y, z, h1, h2, h3, c0, c1, c2⟩
theorem tokAt0 {w : World} {A : Option Addr} {n : Nat} {x : Tok} {T : List Tok} (h : Sl 3 tokC w A n (x :: T)) :
    ∃ b off : Nat, A = some ⟨b, off, none⟩ ∧ b < w.heap.size ∧ w.cell? ⟨b, off, none⟩ = some (.int .i64 (x.k : Int)) ∧ w.cell? ⟨b, off + 1, none⟩ = some (.string ⟨x.t.toArray⟩) ∧ w.cell? ⟨b, off + 2, none⟩ = some (.bool x.g) := by
  have hn : 0 < n := by have := h.1; simp only [List.length_cons] at this; omega
  obtain ⟨b, off, k, y, z, h1, h2, h3, c0, c1, c2⟩ := tok0 h hn
  simp only [List.getElem?_cons_zero, Option.some.injEq] at h3
  subst h3
  exact ⟨b, off, h1, h2, c0, c1, c2⟩
theorem tokAt01 {w : World} {A : Option Addr} {n : Nat} {x y : Tok} {T : List Tok} (h : Sl 3 tokC w A n (x :: y :: T)) :
    ∃ b off : Nat, A = some ⟨b, off, none⟩ ∧ b < w.heap.size ∧ (w.cell? ⟨b, off, none⟩ = some (.int .i64 (x.k : Int)) ∧ w.cell? ⟨b, off + 1, none⟩ = some (.string ⟨x.t.toArray⟩) ∧ w.cell? ⟨b, off + 2, none⟩ = some (.bool x.g)) ∧
      (w.cell? ⟨b, off + 3, none⟩ = some (.int .i64 (y.k : Int)) ∧ w.cell? ⟨b, off + 3 + 1, none⟩ = some (.string ⟨y.t.toArray⟩) ∧ w.cell? ⟨b, off + 3 + 2, none⟩ = some (.bool y.g)) := by
  have hn : 1 < n := by have := h.1; simp only [List.length_cons] at this; omega
  obtain ⟨b, off, h1, h2, c0⟩ := tokAt0 h
  obtain ⟨b', off', k, y', z, h1', h2', h3, d0⟩ := tok1 h hn
  rw [h1] at h1'
  injection h1' with h1'
  injection h1' with e1 e2
  subst e1 e2
  simp only [List.getElem?_cons_succ, List.getElem?_cons_zero, Option.some.injEq] at h3
  subst h3
  exact ⟨b, off, h1, h2, c0, d0⟩
theorem box6 {W w : World} {H : List Ck} {b : Nat} {y0 y1 y2 y3 y4 y5 : Value} {t : TypeId} (h : Mem W w H) (i : Nat) (hi : H[i]? = some (.box b #[y0, y1, y2, y3, y4, y5] t)) :
    (w.cell? ⟨b, 0, none⟩ = some y0 ∧ w.cell? ⟨b, 1, none⟩ = some y1 ∧ w.cell? ⟨b, 2, none⟩ = some y2 ∧ w.cell? ⟨b, 3, none⟩ = some y3 ∧ w.cell? ⟨b, 4, none⟩ = some y4 ∧ w.cell? ⟨b, 5, none⟩ = some y5) ∧
    (w.frozen? ⟨b, 0, none⟩ = false ∧ w.frozen? ⟨b, 1, none⟩ = false ∧ w.frozen? ⟨b, 2, none⟩ = false ∧ w.frozen? ⟨b, 3, none⟩ = false ∧ w.frozen? ⟨b, 4, none⟩ = false ∧ w.frozen? ⟨b, 5, none⟩ = false) :=
  ⟨⟨h.cell i hi 0 rfl, h.cell i hi 1 rfl, h.cell i hi 2 rfl, h.cell i hi 3 rfl, h.cell i hi 4 rfl, h.cell i hi 5 rfl⟩, ⟨h.free i hi 0, h.free i hi 1, h.free i hi 2, h.free i hi 3, h.free i hi 4, h.free i hi 5⟩⟩
theorem load_stm {w : World} {b : Nat} {y0 y1 y2 y3 y4 y5 : Value} {t : TypeId} (h : w.heap[b]? = some (.cells #[y0, y1, y2, y3, y4, y5] t (0, 0))) : (loadVar 116 ⟨b, 0, none⟩).run Tryz.prog w = .ok (.agg #[y0, y1, y2, y3, y4, y5]) w := by
  have c0 := Bx.cell h 0 (v := y0) rfl
  have c1 := Bx.cell h 1 (v := y1) rfl
  have c2 := Bx.cell h 2 (v := y2) rfl
  have c3 := Bx.cell h 3 (v := y3) rfl
  have c4 := Bx.cell h 4 (v := y4) rfl
  have c5 := Bx.cell h 5 (v := y5) rfl
  simp [loadVar, go_sem, c0, c1, c2, c3, c4, c5]
theorem res_tct {fn : Func} {tmps : Array Value} {w : World} {a b k l : Nat} {t : TypeId} {v : Value} (hr : fn.results = #[.tmp k, .cell a t, .tmp l]) (ha : tmps.getD a undef = .pointer (some ⟨b, 0, none⟩)) (hl : (loadVar t ⟨b, 0, none⟩).run Tryz.prog w = .ok v w) : (results fn tmps).run Tryz.prog w = .ok (.tuple #[tmps.getD k undef, v, tmps.getD l undef]) w := by
  unfold results
  rw [hr]
  simp only [List.mapM_toArray, List.mapM_cons, List.mapM_nil, ha, asAddr, pure_bind, Sem.run_bind, Sem.run_map, hl, Result.andThen_ok, Sem.run_pure, map_pure]
  rfl
abbrev stmZ : Array Value := #[.string ⟨#[]⟩, .int .i64 0, .slice none 0 0, .int .i64 0, .int .i64 0, .int .i64 0]
def ParTo (lb : List UInt8) (st : Stm) (w : World) (e : Ending) (w' : World) : Prop := ∃ A n cap, e = .returned (.tuple #[.string ⟨lb.toArray⟩, .agg #[.string ⟨st.w.toArray⟩, .int .i64 (st.op : Int), .slice A n cap, .int .i64 0, .int .i64 0, .int .i64 (st.sz : Int)], .bool true]) ∧
  Own 118 3 argC w.heap.size w' (.slice A n cap) st.l ∧ Held w w'
theorem ba_l (l : List UInt8) : (⟨l.toArray⟩ : ByteArray).data.toList = l := by simp
set_option maxHeartbeats 8000000 in
theorem parsed_any (s : ByteArray) (lb : List UInt8) (st : Stm) (hs : s.size ≤ 8192) (h : parsed s.data.toList = some (lb, st)) (w : World) : Calls Tryz.prog 73 #[.string s] w (ParTo lb st w) := by
  obtain ⟨h59, L, T, hL, hst, hlab⟩ := par_cases h
  have hno : ∀ k (hk : k < s.size), s[k] ≠ 59 := fun k hk => h59 s[k] (by
    have : s.data.toList[k]'(by rw [len_b]; exact hk) = s[k] := rfl
    rw [← this]; exact List.getElem_mem _)
  have hLl := toks_len _ _ _ _ hL
  rw [len_b] at hLl
  have HNO := Lib.hid hno
  have HTK := Lib.hid fun w => tokens_any s L hs hL w
  obtain ⟨t, r, p, a, rfl, hd46, hne, hp, hgap, hma, hsp, rfl⟩ := stm_cases hst
  obtain ⟨sz, hsz⟩ : ∃ sz, (if t.t = [108, 105] then 2 else 1 : Nat) = sz := ⟨_, rfl⟩
  rw [hsz]
  have HSZ := Lib.hid hsz
  have M0 := Lib.hid ((Mem.start w).alloc stmZ 116)
  have HLB := Lib.hid hlab
  have HGAP := Lib.hid hgap
  have HLL := Lib.hid (show L.length ≤ 8192 by omega)
  clear h h59 hno hL hst hLl hlab hgap hsz
  go_enter Tryz.func73, Tryz.ntmps73
  go_wp2
  go_loopw [0, 5] (fun v i wr => ∃ q : Nat, v = .string s ∧ i = .int .i64 (q : Int) ∧ q ≤ s.size ∧ wr = w.alloc (.cells stmZ 116)) (fun _ i _ => s.size - (RowKit.intOf i).toNat)
  case atStart => exact ⟨0, rfl, rfl, Nat.zero_le _, rfl⟩
  case round =>
    obtain ⟨q, rfl, rfl, hq, rfl⟩ := hrel
    by_cases hlt : q < s.size
    · have y1 : (q : Int) < s.size := by omega
      have y2 : (0 : Int) ≤ q := by omega
      have ix := By.idx s (q : Int) q rfl hlt
      have hn9 := HNO.out q hlt
      obtain ⟨c, hcs⟩ : ∃ c, s[q] = c := ⟨_, rfl⟩
      rw [hcs] at ix hn9
      have e59 : ((c.toNat : Int) == 59) = false := u8_ne hn9 rfl
      clear hcs hn9
      go_wp2
      go_roundw
      case rel => exact ⟨q + 1, rfl, by go_num, by omega, trivial⟩
      case measure => (simp [RowKit.intOf]) <;> omega
    · obtain rfl : q = s.size := by omega
      have y1 : ¬ (s.size : Int) < s.size := by omega
      clear HNO
      go_wp2_with fail
      refine (HTK.out _).mono ?_
      rintro e w2 ⟨A, n, cap, rfl, ho, h2⟩
      have M2 := Lib.hid (M0.out.keep h2)
      have hcap := Own.cap ho
      obtain ⟨hsl, hn, _⟩ := Own.reads tokC_len ho
      have HSL := Lib.hid hsl
      have hn8 : n ≤ 8192 := by have := HLL.out; omega
      have HNL : Is n L.length := ⟨hn⟩
      clear ho h2 hsl hn HTK M0
      rcases HLB.out with ⟨⟨k0, x0, g0⟩, ⟨k1, x1, g1⟩, hLe, hu, hk0, hn0, hlb⟩ | ⟨hTe, hlb, hnot⟩
      · dsimp only at hu hk0 hn0 hlb
        subst hLe hu hk0 hlb
        have hnl := HNL.out
        simp only [List.length_cons] at hnl
        obtain ⟨b, off, rfl, hb, ⟨c0, c1, c2⟩, ⟨d0, d1, d2⟩⟩ := tokAt01 HSL.out
        dsimp only at c0 c1 c2 d0 d1 d2
        obtain ⟨A2, hrun2, hsl2⟩ := tok_drop HSL.out hcap 2 2 rfl (by omega) (by omega)
        simp only [List.drop_succ_cons, List.drop_zero] at hsl2
        obtain ⟨n2, hn2⟩ : ∃ n2, n - 2 = n2 := ⟨_, rfl⟩
        obtain ⟨cp2, hc2⟩ : ∃ c2, cap - 2 = c2 := ⟨_, rfl⟩
        rw [hn2] at hrun2 hsl2
        rw [hc2] at hrun2
        have hcap2 : n2 ≤ cp2 := by omega
        have hn28 : n2 ≤ 8192 := by omega
        have hn20 : 1 ≤ n2 := by omega
        have y2 : (2 : Int) ≤ n := by omega
        have HNA := Lib.hid fun w => name_any ⟨lb.toArray⟩ (by have := name_len hn0; show lb.toArray.size ≤ _; simp; omega) w
        rw [ba_l, hn0] at HNA
        unfold BoolTo at HNA
        have HSL2 := Lib.hid hsl2
        clear hn0 HNL hnl hsl2 hn2 hc2 HLB HSL
        go_wp2_with fail
        refine (HNA.out _).mono ?_
        rintro e w3 ⟨rfl, h3⟩
        have HSLT := Lib.hid (HSL2.out.held h3)
        have M3 := Lib.hid (M2.out.keep h3)
        clear h3 HSL2 HNA M2 c0 c1 c2 d0 d1 d2
        go_upto_if 64 with fail
        obtain ⟨kt, x, gt⟩ := t
        dsimp only at hd46 hne hp hsp HSZ ⊢
        obtain ⟨b2, off2, rfl, hb2, t0, t1, t2⟩ := tokAt0 HSLT.out
        dsimp only at t0 t1 t2
        obtain ⟨A3, hrun3, hsl3⟩ := tok_drop HSLT.out hcap2 1 1 rfl (by omega) (by omega)
        simp only [List.drop_succ_cons, List.drop_zero] at hsl3
        obtain ⟨n3, hn3⟩ : ∃ n3, n2 - 1 = n3 := ⟨_, rfl⟩
        obtain ⟨c3, hc3⟩ : ∃ c3, cp2 - 1 = c3 := ⟨_, rfl⟩
        rw [hn3] at hrun3 hsl3
        rw [hc3] at hrun3
        have hcap3 : n3 ≤ c3 := by omega
        have hn38 : n3 ≤ 8192 := by omega
        have HSL3 := Lib.hid hsl3
        obtain ⟨sw, hsw⟩ : ∃ sw : ByteArray, (⟨x.toArray⟩ : ByteArray) = sw := ⟨_, rfl⟩
        have hx : sw.data.toList = x := by rw [← hsw]
        rw [hsw] at t1
        have HSW := Lib.hid hsw
        have HP := Lib.hid fun w => pattern_any sw w
        rw [hx, hp] at HP
        unfold PatTo at HP
        obtain ⟨sp, hspp⟩ : ∃ sp : ByteArray, (⟨p.toArray⟩ : ByteArray) = sp := ⟨_, rfl⟩
        have hpx : sp.data.toList = p := by rw [← hspp]
        have HPP : Hid (∀ w, Calls Tryz.prog 107 #[.string sw] w fun e w' => e = .returned (.tuple #[.string sp, .bool true]) ∧ Held w w') := by rw [← hspp]; exact HP
        have HMT := Lib.hid fun (w' : World) (k : Held w3 w') => matched_any A3 n3 c3 r sp a w' (hsl3.held k) hn38 hcap3 (by rw [hpx]; exact hma)
        have HOP := Lib.hid fun w => operation_any sw w
        rw [hx] at HOP
        unfold NatTo at HOP
        obtain ⟨o, ho⟩ : ∃ o, operation x = o := ⟨_, rfl⟩
        rw [ho] at HOP
        have HO := Lib.hid ho
        have q46 := ba_eq sw [46]
        rw [hx, decide_eq_false hd46] at q46
        have qsp := ba_eq sw [46, 115, 112, 97, 99, 101]
        rw [hx, decide_eq_false hsp] at qsp
        have qli := ba_eq sw [108, 105]
        rw [hx] at qli
        have z2 : ((n2 : Int) == 0) = false := by rw [beq_eq_false_iff_ne]; omega
        have HGP : Hid (n3 = 0 ∨ ∃ b off, A3 = some ⟨b, off, none⟩ ∧ w3.cell? ⟨b, off + 2, none⟩ = some (.bool true)) := by
          cases r with
          | nil => exact Or.inl (by have := hsl3.1; simpa using this.symm)
          | cons v r' =>
            obtain ⟨b, off, e, _, _, _, g2⟩ := tokAt0 hsl3
            rw [HGAP.out v r' rfl] at g2
            exact Or.inr ⟨b, off, e, g2⟩
        clear hsw hx hp hspp hpx HP ho hd46 hne hsp hsl3 hma hn3 hc3 HGAP HLL
        go_wp2_with fail
        refine (HPP.out _).mono ?_
        rintro e w5 ⟨rfl, h5⟩
        have M5 := Lib.hid (M3.out.keep h5)
        have HH5 := Lib.hid h5
        have hg5 : n3 = 0 ∨ ∃ b off, A3 = some ⟨b, off, none⟩ ∧ w5.cell? ⟨b, off + 2, none⟩ = some (.bool true) := HGP.out.imp id fun ⟨b, off, e, g⟩ => ⟨b, off, e, h5.cell g⟩
        have HG5 := Lib.hid hg5
        clear hg5 h5 HGP
        go_upto_region 23 with fail
        go_cut [112] (fun v wx => v = .bool false ∧ wx = w5)
        case first =>
          rcases HG5.out with h0 | ⟨b, off, rfl, g2⟩
          · have y3 : ¬ (0 : Int) < n3 := by omega
            clear h0
            go_wp2
            go_meet
            case rel => exact ⟨rfl, rfl⟩
          · by_cases h0 : 0 < n3
            · have y3 : (0 : Int) < n3 := by omega
              clear h0
              go_wp2
              go_meet
              case rel => exact ⟨rfl, rfl⟩
            · have y3 : ¬ (0 : Int) < n3 := by omega
              clear h0
              go_wp2
              go_meet
              case rel => exact ⟨rfl, rfl⟩
        case rest =>
          obtain ⟨rfl, rfl⟩ := hcut
          clear HG5
          go_wp2_with fail
          refine (HMT.out _ HH5.out).mono ?_
          rintro e w6 ⟨A4, n4, c4, rfl, ho6, h6⟩
          have M6 := Lib.hid (M5.out.own h6 ho6)
          clear h6 ho6 HMT
          go_wp2_with fail
          refine (HOP.out _).mono ?_
          rintro e w7 ⟨rfl, h7⟩
          have M7 := Lib.hid (M6.out.keep h7)
          clear h7
          have hbs := M7.out.lt 0 rfl
          have hbne : ¬ w.heap.size = w7.heap.size := by omega
          by_cases hli : x = [108, 105]
          · rw [decide_eq_true hli] at qli
            have hz : sz = 2 := by rw [← HSZ.out, if_pos hli]
            subst hz
            clear hli HSZ
            have M8 := Lib.hid (M7.out.alloc #[.string sw, .int .i64 (o : Int), .slice A4 n4 c4, .int .i64 0, .int .i64 0, .int .i64 2] 116)
            obtain ⟨⟨x0, x1, x2, x3, x4, x5⟩, ⟨v0, v1, v2, v3, v4, v5⟩⟩ := box6 M8.out 2 rfl
            obtain ⟨⟨r0, r1, r2, r3, r4, r5⟩, ⟨s0, s1, s2, s3, s4, s5⟩⟩ := box6 M7.out 0 rfl
            have M9 := Lib.hid (((((((M7.out.put 0 rfl 0 (.string sw)).put 0 rfl 1 (.int .i64 (o : Int))).put 0 rfl 2 (.slice A4 n4 c4)).put 0 rfl 3 (.int .i64 0)).put 0 rfl 4 (.int .i64 0)).put 0 rfl 5 (.int .i64 2)).alloc' (b := w7.heap.size) (by simp) #[.string sw, .int .i64 (o : Int), .slice A4 n4 c4, .int .i64 0, .int .i64 0, .int .i64 2] 116).drew
            go_wp2
            go_region
            go_wp2
            refine bodyPost_ret (res_tct Tryz.results73 rfl (load_stm (M9.out.blk 0 rfl))) rfl ?_
            exact ⟨A4, n4, c4, by rw [HSW.out, HO.out]; rfl, M9.out.row 1 rfl, M9.out.held⟩
          · rw [decide_eq_false hli] at qli
            have hz : sz = 1 := by rw [← HSZ.out, if_neg hli]
            subst hz
            clear hli HSZ
            have M8 := Lib.hid (M7.out.alloc #[.string sw, .int .i64 (o : Int), .slice A4 n4 c4, .int .i64 0, .int .i64 0, .int .i64 1] 116)
            obtain ⟨⟨x0, x1, x2, x3, x4, x5⟩, ⟨v0, v1, v2, v3, v4, v5⟩⟩ := box6 M8.out 2 rfl
            obtain ⟨⟨r0, r1, r2, r3, r4, r5⟩, ⟨s0, s1, s2, s3, s4, s5⟩⟩ := box6 M7.out 0 rfl
            have M9 := Lib.hid (((((((M7.out.put 0 rfl 0 (.string sw)).put 0 rfl 1 (.int .i64 (o : Int))).put 0 rfl 2 (.slice A4 n4 c4)).put 0 rfl 3 (.int .i64 0)).put 0 rfl 4 (.int .i64 0)).put 0 rfl 5 (.int .i64 1)).alloc' (b := w7.heap.size) (by simp) #[.string sw, .int .i64 (o : Int), .slice A4 n4 c4, .int .i64 0, .int .i64 0, .int .i64 1] 116).drew
            go_wp2
            go_region
            go_wp2
            refine bodyPost_ret (res_tct Tryz.results73 rfl (load_stm (M9.out.blk 0 rfl))) rfl ?_
            exact ⟨A4, n4, c4, by rw [HSW.out, HO.out]; rfl, M9.out.row 1 rfl, M9.out.held⟩
      · subst hTe hlb
        have hnl := HNL.out
        simp only [List.length_cons] at hnl
        have hg5 : n = 1 ∨ ∃ b off sv, A = some ⟨b, off, none⟩ ∧ w2.cell? ⟨b, off + 3 + 1, none⟩ = some (.string sv) ∧ sv.data.toList ≠ [58] ∧ 2 ≤ n := by
          cases r with
          | nil => exact .inl (by simpa using hnl)
          | cons v r' =>
            obtain ⟨b, off, e, _, _, ⟨_, d1, _⟩⟩ := tokAt01 HSL.out
            exact .inr ⟨b, off, _, e, d1, by rw [ba_l]; exact hnot _ _ _ rfl, by simp only [List.length_cons] at hnl; omega⟩
        have HG5 := Lib.hid hg5
        have hn20 : 1 ≤ n := by omega
        clear hg5 hnot hnl HNL HLB
        go_upto_region 10 with fail
        go_cut [44] (fun v wx => v = .bool false ∧ wx = w2)
        case first =>
          rcases HG5.out with h0 | ⟨b, off, sv, rfl, d1, hne58, hn2⟩
          · have y3 : ¬ (2 : Int) ≤ n := by omega
            clear h0
            go_wp2
            go_meet
            case rel => exact ⟨rfl, rfl⟩
          · have y3 : (2 : Int) ≤ n := by omega
            have qv := ba_eq sv [58]
            rw [decide_eq_false hne58] at qv
            clear hne58
            go_wp2
            go_meet
            case rel => exact ⟨rfl, rfl⟩
        case rest =>
          obtain ⟨rfl, rfl⟩ := hcut
          clear HG5
          obtain ⟨lb, hlb⟩ : ∃ lb : List UInt8, lb = [] := ⟨_, rfl⟩
          have HLB2 := Lib.hid hlb
          have HSLT := HSL
          have M3 := M2
          obtain ⟨n2, hn2⟩ : ∃ n2, n2 = n := ⟨_, rfl⟩
          obtain ⟨cp2, hcp2⟩ : ∃ c2, c2 = cap := ⟨_, rfl⟩
          obtain ⟨w3, hw3⟩ : ∃ w3, w3 = wc := ⟨_, rfl⟩
          subst hn2 hcp2 hw3
          have hcap2 := hcap
          clear HSL M2 hlb hcap
          go_upto_if 64 with fail
          obtain ⟨kt, x, gt⟩ := t
          dsimp only at hd46 hne hp hsp HSZ ⊢
          obtain ⟨b2, off2, rfl, hb2, t0, t1, t2⟩ := tokAt0 HSLT.out
          dsimp only at t0 t1 t2
          obtain ⟨A3, hrun3, hsl3⟩ := tok_drop HSLT.out hcap2 1 1 rfl (by omega) (by omega)
          simp only [List.drop_succ_cons, List.drop_zero] at hsl3
          obtain ⟨n3, hn3⟩ : ∃ n3, n2 - 1 = n3 := ⟨_, rfl⟩
          obtain ⟨c3, hc3⟩ : ∃ c3, cp2 - 1 = c3 := ⟨_, rfl⟩
          rw [hn3] at hrun3 hsl3
          rw [hc3] at hrun3
          have hcap3 : n3 ≤ c3 := by omega
          have hn38 : n3 ≤ 8192 := by omega
          have HSL3 := Lib.hid hsl3
          obtain ⟨sw, hsw⟩ : ∃ sw : ByteArray, (⟨x.toArray⟩ : ByteArray) = sw := ⟨_, rfl⟩
          have hx : sw.data.toList = x := by rw [← hsw]
          rw [hsw] at t1
          have HSW := Lib.hid hsw
          have HP := Lib.hid fun w => pattern_any sw w
          rw [hx, hp] at HP
          unfold PatTo at HP
          obtain ⟨sp, hspp⟩ : ∃ sp : ByteArray, (⟨p.toArray⟩ : ByteArray) = sp := ⟨_, rfl⟩
          have hpx : sp.data.toList = p := by rw [← hspp]
          have HPP : Hid (∀ w, Calls Tryz.prog 107 #[.string sw] w fun e w' => e = .returned (.tuple #[.string sp, .bool true]) ∧ Held w w') := by rw [← hspp]; exact HP
          have HMT := Lib.hid fun (w' : World) (k : Held w3 w') => matched_any A3 n3 c3 r sp a w' (hsl3.held k) hn38 hcap3 (by rw [hpx]; exact hma)
          have HOP := Lib.hid fun w => operation_any sw w
          rw [hx] at HOP
          unfold NatTo at HOP
          obtain ⟨o, ho⟩ : ∃ o, operation x = o := ⟨_, rfl⟩
          rw [ho] at HOP
          have HO := Lib.hid ho
          have q46 := ba_eq sw [46]
          rw [hx, decide_eq_false hd46] at q46
          have qsp := ba_eq sw [46, 115, 112, 97, 99, 101]
          rw [hx, decide_eq_false hsp] at qsp
          have qli := ba_eq sw [108, 105]
          rw [hx] at qli
          have z2 : ((n2 : Int) == 0) = false := by rw [beq_eq_false_iff_ne]; omega
          have HGP : Hid (n3 = 0 ∨ ∃ b off, A3 = some ⟨b, off, none⟩ ∧ w3.cell? ⟨b, off + 2, none⟩ = some (.bool true)) := by
            cases r with
            | nil => exact Or.inl (by have := hsl3.1; simpa using this.symm)
            | cons v r' =>
              obtain ⟨b, off, e, _, _, _, g2⟩ := tokAt0 hsl3
              rw [HGAP.out v r' rfl] at g2
              exact Or.inr ⟨b, off, e, g2⟩
          clear hsw hx hp hspp hpx HP ho hd46 hne hsp hsl3 hma hn3 hc3 HGAP HLL
          go_wp2_with fail
          refine (HPP.out _).mono ?_
          rintro e w5 ⟨rfl, h5⟩
          have M5 := Lib.hid (M3.out.keep h5)
          have HH5 := Lib.hid h5
          have hg5 : n3 = 0 ∨ ∃ b off, A3 = some ⟨b, off, none⟩ ∧ w5.cell? ⟨b, off + 2, none⟩ = some (.bool true) := HGP.out.imp id fun ⟨b, off, e, g⟩ => ⟨b, off, e, h5.cell g⟩
          have HG5 := Lib.hid hg5
          clear hg5 h5 HGP
          go_upto_region 23 with fail
          go_cut [112] (fun v wx => v = .bool false ∧ wx = w5)
          case first =>
            rcases HG5.out with h0 | ⟨b, off, rfl, g2⟩
            · have y3 : ¬ (0 : Int) < n3 := by omega
              clear h0
              go_wp2
              go_meet
              case rel => exact ⟨rfl, rfl⟩
            · by_cases h0 : 0 < n3
              · have y3 : (0 : Int) < n3 := by omega
                clear h0
                go_wp2
                go_meet
                case rel => exact ⟨rfl, rfl⟩
              · have y3 : ¬ (0 : Int) < n3 := by omega
                clear h0
                go_wp2
                go_meet
                case rel => exact ⟨rfl, rfl⟩
          case rest =>
            obtain ⟨rfl, rfl⟩ := hcut
            clear HG5
            go_wp2_with fail
            refine (HMT.out _ HH5.out).mono ?_
            rintro e w6 ⟨A4, n4, c4, rfl, ho6, h6⟩
            have M6 := Lib.hid (M5.out.own h6 ho6)
            clear h6 ho6 HMT
            go_wp2_with fail
            refine (HOP.out _).mono ?_
            rintro e w7 ⟨rfl, h7⟩
            have M7 := Lib.hid (M6.out.keep h7)
            clear h7
            have hbs := M7.out.lt 0 rfl
            have hbne : ¬ w.heap.size = w7.heap.size := by omega
            by_cases hli : x = [108, 105]
            · rw [decide_eq_true hli] at qli
              have hz : sz = 2 := by rw [← HSZ.out, if_pos hli]
              subst hz
              clear hli HSZ
              have M8 := Lib.hid (M7.out.alloc #[.string sw, .int .i64 (o : Int), .slice A4 n4 c4, .int .i64 0, .int .i64 0, .int .i64 2] 116)
              obtain ⟨⟨x0, x1, x2, x3, x4, x5⟩, ⟨v0, v1, v2, v3, v4, v5⟩⟩ := box6 M8.out 2 rfl
              obtain ⟨⟨r0, r1, r2, r3, r4, r5⟩, ⟨s0, s1, s2, s3, s4, s5⟩⟩ := box6 M7.out 0 rfl
              have M9 := Lib.hid (((((((M7.out.put 0 rfl 0 (.string sw)).put 0 rfl 1 (.int .i64 (o : Int))).put 0 rfl 2 (.slice A4 n4 c4)).put 0 rfl 3 (.int .i64 0)).put 0 rfl 4 (.int .i64 0)).put 0 rfl 5 (.int .i64 2)).alloc' (b := w7.heap.size) (by simp) #[.string sw, .int .i64 (o : Int), .slice A4 n4 c4, .int .i64 0, .int .i64 0, .int .i64 2] 116).drew
              go_wp2
              go_region
              go_wp2
              refine bodyPost_ret (res_tct Tryz.results73 rfl (load_stm (M9.out.blk 0 rfl))) rfl ?_
              exact ⟨A4, n4, c4, by rw [HSW.out, HO.out]; rfl, M9.out.row 1 rfl, M9.out.held⟩
            · rw [decide_eq_false hli] at qli
              have hz : sz = 1 := by rw [← HSZ.out, if_neg hli]
              subst hz
              clear hli HSZ
              have M8 := Lib.hid (M7.out.alloc #[.string sw, .int .i64 (o : Int), .slice A4 n4 c4, .int .i64 0, .int .i64 0, .int .i64 1] 116)
              obtain ⟨⟨x0, x1, x2, x3, x4, x5⟩, ⟨v0, v1, v2, v3, v4, v5⟩⟩ := box6 M8.out 2 rfl
              obtain ⟨⟨r0, r1, r2, r3, r4, r5⟩, ⟨s0, s1, s2, s3, s4, s5⟩⟩ := box6 M7.out 0 rfl
              have M9 := Lib.hid (((((((M7.out.put 0 rfl 0 (.string sw)).put 0 rfl 1 (.int .i64 (o : Int))).put 0 rfl 2 (.slice A4 n4 c4)).put 0 rfl 3 (.int .i64 0)).put 0 rfl 4 (.int .i64 0)).put 0 rfl 5 (.int .i64 1)).alloc' (b := w7.heap.size) (by simp) #[.string sw, .int .i64 (o : Int), .slice A4 n4 c4, .int .i64 0, .int .i64 0, .int .i64 1] 116).drew
              go_wp2
              go_region
              go_wp2
              refine bodyPost_ret (res_tct Tryz.results73 rfl (load_stm (M9.out.blk 0 rfl))) rfl ?_
              exact ⟨A4, n4, c4, by rw [HSW.out, HO.out]; rfl, M9.out.row 1 rfl, M9.out.held⟩
end As
end Go.Proofs.YtdacgdokbfcgdaaGreat
