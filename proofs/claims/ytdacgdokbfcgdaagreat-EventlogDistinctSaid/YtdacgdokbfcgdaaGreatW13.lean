/-
  Contracts: the hash and the varints of chapter 1 (package bits and the reference) compute the plain functions of Hs and Uv.
  Plain laws, no program in sight: sealed segments (chapter 19).
  Contracts: sealed segments: the readers, Seal and Open of eventlog and of its reference compute the plain functions of Lg.
  Contracts: sealed segments: the hash's bytes, Seal and Open of eventlog and of its reference.
  Contracts: Valid of eventlog and of its reference (printed by wip/tools/mkev.py).
  Plain laws, no program in sight: the encoding of a log segment.
  The recorder of the reference: pieces of memory, plain facts on its log, a copy of its own.
  The recorder of the reference: a copy of its own.
-/
import Derived.Test.YtdacgdokbfcgdaaGreatProg
import Derived.Test.YtdacgdokbfcgdaaGreatW12
import Derived.WalkKit
import Derived.Lib.Hide
import Derived.WalkSpells
import Derived.WalkLawsBesides
import Derived.BigQuiet
import Derived.Deep.QuietTactic
import Derived.Test.YtdacgdokbfcgdaaGreatW1
import Derived.Lib.QuietBelow
import Derived.Test.YtdacgdokbfcgdaaGreatW10
set_option linter.unusedVariables false
set_option linter.unusedSimpArgs false
set_option maxRecDepth 100000
namespace Go.Proofs.YtdacgdokbfcgdaaGreat
open Go.RowKit
namespace Strs
theorem ret_u64 {a b : Int} (h : a = b) : Ending.returned (.int .u64 a) = .returned (.int .u64 b) := by rw [h]
theorem int_u64 {a b : Int} (h : a = b) : Value.int .u64 a = .int .u64 b := by rw [h]
theorem take_snoc (s : ByteArray) (k : Nat) (h : k < s.size) : s.data.toList.take (k + 1) = s.data.toList.take k ++ [s[k]] := by
  rw [List.take_succ_eq_append_getElem (by simpa using h)]; rfl
theorem take_all (s : ByteArray) : s.data.toList.take s.size = s.data.toList := List.take_of_length_le (by simp)
theorem step_eq (h : Nat) (c : UInt8) (hh : h < 18446744073709551616) : IntKind.u64.wrap (bits .xor .u64 (h : Int) (c.toNat : Int) * 1099511628211) = (Hs.step h c : Int) := by
  rw [u64_xor_nat h _ hh (by have := c.toNat_lt; omega), IntKind.wrap_u64]
  unfold Hs.step; simp
theorem hash_any (h : Nat) (s : ByteArray) (hh : (h : Int) ≤ 18446744073709551615) (hs : s.size ≤ 9223372036854775807) (w : World) :
    Calls Tryz.prog 70 #[.int .u64 h, .string s] w fun e w' => e = .returned (.int .u64 (Hs.hash h s.data.toList)) ∧ w = w' := by
  have TA := Lib.hid (take_all s)
  go_enter Tryz.func70, Tryz.ntmps70
  go_wp2
  go_loop [0, 8] (fun x i => ∃ k : Nat, k ≤ s.size ∧ i = .int .i64 k ∧ x = .int .u64 (Hs.hash h (s.data.toList.take k))) (fun _ i => s.size - (intOf i).toNat)
  case atStart => exact ⟨0, Nat.zero_le _, rfl, rfl⟩
  case round =>
    obtain ⟨k, hk, rfl, rfl⟩ := hrel
    have hl := Hs.hash_lt h (s.data.toList.take k) (by omega)
    by_cases hlt : k < s.size
    · have hb : (s[k].toNat : Int) ≤ 255 := by have := s[k].toNat_lt; omega
      have HS := Lib.hid (Hs.hash_snoc h (s.data.toList.take k) s[k])
      have HT := Lib.hid (take_snoc s k hlt)
      have HE := Lib.hid (step_eq _ s[k] hl)
      clear hl
      go_wp2
      go_round
      case rel => exact ⟨k + 1, by omega, by go_num, int_u64 (by rw [HT.out, HS.out, ← HE.out])⟩
      case measure => simp [intOf]; omega
    · obtain rfl : k = s.size := by omega
      go_wp2
      go_ret
      exact ⟨ret_u64 (by rw [TA.out]), rfl⟩
theorem Tryzinfo_u8 : (Tryz.prog.info? 5).map (fun i => (i.zero, i.size, i.bytes)) = some (some (.int .u8 0), 1, 1) := by kernel_rfl
/-- Bytes as the cells of a slice. -/
def by8 (l : List UInt8) : List Value := l.map fun c => Value.int .u8 c.toNat
theorem by8_append (a b : List UInt8) : by8 (a ++ b) = by8 a ++ by8 b := List.map_append
theorem by8_one (l : List UInt8) : ∀ u ∈ by8 l, u.oneCell' = true := by
  intro u hu; obtain ⟨c, _, rfl⟩ := List.mem_map.1 hu; rfl
theorem by8_at {l : List UInt8} {j : Nat} {u : Value} (h : (by8 l)[j]? = some u) : ∃ h : j < l.length, u = .int .u8 l[j].toNat := by
  unfold by8 at h
  rw [List.getElem?_map] at h
  cases e : l[j]? with
  | none => simp [e] at h
  | some c =>
    obtain ⟨hj, rfl⟩ := List.getElem?_eq_some_iff.1 e
    simp [e] at h
    exact ⟨hj, h.symm⟩
/-- Append to bytes that the call itself made. -/
theorem app_u8 (w : World) {ops : Array Oper} {rest : List Oper} {o : Oper} {a : Act} {Q : Exit → Act → World → Prop} (hgd : o.guard = none) (s x : Operand)
    (ho : o.op = .call { callee := .builtin .append, args := #[s, x], argTypes := #[37, 37] }) (base : Nat) (v : Value) (l news : List UInt8) (ad : Addr) (m c : Nat)
    (hs : a.eval s = v) (hown : w.ownsRow base 5 1 v l.length (by8 l)) (hx : a.eval x = .slice (some ad) m c) (hm : news.length = m)
    (hnews : ∀ j (h : j < news.length), w.cell? (ad.add j) = some (.int .u8 news[j].toNat)) (hb : l.length + m ≤ 140737488355328) (hbase : base ≤ w.heap.size)
    (h : ∀ v' w', w'.ownsRow base 5 1 v' (l ++ news).length (by8 (l ++ news)) → w.grownBy w' v.ownBlock → (v' = .slice none 0 0 ↔ v = .slice none 0 0 ∧ m = 0) → wpList Tryz.prog ops Q rest (a.put o.dst v') w') :
    wpList Tryz.prog ops Q (o :: rest) a w := by
  obtain ⟨i0, hi, hz0, hz1, hz2⟩ := info_parts Tryzinfo_u8
  refine wpList_append_own w hgd s x 37 ho base 5 i0 (.int .u8 0) 1 1 Tryz.underlying37 hi hz0 hz1 hz2 rfl (by decide) v l.length (by8 l) hs hown ad m c (by8 news) hx (by simp [by8, hm]) ?_ (by8_one news) (by unfold maxLen; omega) (by omega) hbase ?_
  · intro j u hj
    obtain ⟨hk, rfl⟩ := by8_at hj
    exact hnews j hk
  · intro v' w' h1 h2 h3
    refine h v' w' ?_ h2 h3
    rw [by8_append, List.length_append, hm]; exact h1
/-- A row of one byte that was just made. -/
theorem one_cell (w : World) (n : Int) (c : UInt8) (h : n = (c.toNat : Int)) (t : TypeId) : ∀ j (h : j < [c].length), (w.alloc (.cells #[.int .u8 n] t)).cell? ((⟨w.heap.size, 0, none⟩ : Addr).add j) = some (.int .u8 [c][j].toNat) := by
  intro j hj
  simp at hj
  subst hj h
  simp [Addr.add]

theorem by8_get (l : List UInt8) (j : Nat) (hj : j < l.length) : (by8 l)[j]? = some (.int .u8 l[j].toNat) := by
  unfold by8; rw [List.getElem?_map, List.getElem?_eq_getElem hj]; rfl
theorem addr_add (g j : Nat) : (⟨g, 0, none⟩ : Addr).add j = ⟨g, j, none⟩ := by
  unfold Addr.add; split
  · rename_i h; subst h; rfl
  · simp
/-- Bytes that the call owns, as a string. -/
theorem conv_own {w : World} {base : Nat} {v : Value} {l : List UInt8} (h : w.ownsRow base 5 1 v l.length (by8 l)) :
    (convert 37 9 v).run Tryz.prog w = .ok (.string ⟨l.toArray⟩) w := by
  have h' := h
  obtain ⟨_, h⟩ := h
  rcases h with ⟨rfl, h0⟩ | ⟨g, cap, cur, rfl, _⟩
  · have hl : l = [] := List.eq_nil_of_length_eq_zero h0
    subst hl
    have := run_convert_bytes_back (P := Tryz.prog) w 37 9 5 default 0 [] Tryz.underlying37 Tryz.underlying5 Tryz.underlying9 (fun j hj => absurd hj (by simp))
    rw [run_convert_bytes_string w _ _ _ none 0 0 Tryz.underlying37 Tryz.underlying5 Tryz.underlying9]
    rfl
  · exact run_convert_bytes_back (P := Tryz.prog) w 37 9 5 _ cap l Tryz.underlying37 Tryz.underlying5 Tryz.underlying9 (fun j hj => by
      have := h'.cellAt j (by omega)
      rw [by8_get l j hj] at this
      rw [addr_add]; exact this)
theorem or128 : ∀ c : Nat, c < 256 → c ||| 128 = c % 128 + 128 := by decide +kernel
theorem put_byte (z : Nat) : bits .or .u8 ((z : Int) % 256) 128 = ((UInt8.ofNat (z % 128 + 128)).toNat : Int) := by
  rw [show ((z : Int) % 256) = ((z % 256 : Nat) : Int) by simp, show (128 : Int) = ((128 : Nat) : Int) from rfl, u8_or_nat _ _ (Nat.mod_lt _ (by omega)) (by omega), or128 _ (Nat.mod_lt _ (by omega)), Uv.ofNat_toNat (by omega)]
  congr 1; omega
theorem last_byte (z : Nat) (h : z < 128) : (z : Int) = ((UInt8.ofNat z).toNat : Int) := by rw [Uv.ofNat_toNat (by omega)]
theorem below_app {W w w1 : World} {b : Nat} {v : Value} {e : TypeId} {size n : Nat} {xs : List Value} {o : Obj} (hb : Below b W w) (hbs : b ≤ w.heap.size) (hown : w.ownsRow b e size v n xs) (hg : (w.alloc o).grownBy w1 v.ownBlock) : Below b W w1 := by
  refine (hb.alloc hbs o).grown hg (by simp; omega) ?_
  intro k hk
  obtain ⟨_, h⟩ := hown
  rcases h with ⟨rfl, _⟩ | ⟨g, cap, cur, rfl, hg', _⟩
  · simp [Value.ownBlock] at hk
  · simp [Value.ownBlock] at hk; omega

theorem put_any (x : Nat) (hx : (x : Int) ≤ 18446744073709551615) (w : World) :
    Calls Tryz.prog 24 #[.int .u64 x] w fun e w' => e = .returned (.string ⟨(Uv.put x).toArray⟩) ∧ Below w.heap.size w w' := by
  go_enter Tryz.func24, Tryz.ntmps24
  go_wp2
  go_loopw [0, 3] (fun y v wr => ∃ (z : Nat) (l : List UInt8), y = .int .u64 z ∧ (z : Int) ≤ 18446744073709551615 ∧ l ++ Uv.put z = Uv.put x ∧ wr.ownsRow w.heap.size 5 1 v l.length (by8 l) ∧ Below w.heap.size w wr)
    (fun y _ _ => (intOf y).toNat)
  case atStart => exact ⟨x, [], rfl, by omega, rfl, World.ownsRow_nil _ _ _ _, Below.refl _ _⟩
  case round =>
    obtain ⟨z, l, rfl, hz, hl, hown, hbel⟩ := hrel
    have hsz := hbel.size
    have hll : l.length ≤ 10 := by
      have h1 := congrArg List.length hl
      have h2 := Uv.put_len x (by omega)
      simp at h1; omega
    have HL := Lib.hid hl
    have HB := Lib.hid hbel
    have HO := Lib.hid hown
    clear hl hbel
    by_cases hlt : (128 : Int) ≤ z
    · go_wp2_with (at_builtin; refine app_u8 _ rfl _ _ rfl w.heap.size _ l [UInt8.ofNat (z % 128 + 128)] ⟨wr.heap.size, 0, none⟩ 1 1 rfl (hown.alloc _) rfl rfl (one_cell _ _ _ (put_byte z) _) (by omega) (by simp; omega) ?_; intro v' w1 hown1 hg1 _)
      go_roundw
      case rel =>
        refine ⟨z / 128, l ++ [UInt8.ofNat (z % 128 + 128)], by simp, by omega, ?_, hown1, below_app HB.out hsz HO.out hg1⟩
        rw [← HL.out, List.append_assoc, Uv.put_step z (by omega) (by omega)]; rfl
      case measure => simp [intOf]; omega
    · have hfin : Hid (l ++ [UInt8.ofNat z] = Uv.put x) := show _ = _ by rw [← HL.out, Uv.put_small z (by omega)]
      go_wp2_with (at_builtin; refine app_u8 _ rfl _ _ rfl w.heap.size _ l [UInt8.ofNat z] ⟨wr.heap.size, 0, none⟩ 1 1 rfl (hown.alloc _) rfl rfl (one_cell _ _ _ (last_byte z (by omega)) _) (by omega) (by simp; omega) ?_; intro v' w1 hown1 hg1 _; have hcv := conv_own hown1)
      go_ret
      exact ⟨by rw [← hfin.out]; rfl, below_app HB.out hsz HO.out hg1⟩

theorem put_byte' (z : Nat) (h : z < 18446744073709551616) : bits .or .u8 (bits .and .u64 (z : Int) 127 % 256) 128 = ((UInt8.ofNat (z % 128 + 128)).toNat : Int) := by
  rw [show (127 : Int) = ((127 : Nat) : Int) from rfl, u64_and_nat z 127 h (by omega), nat_mask7, show ((z % 128 : Nat) : Int) % 256 = ((z % 128 : Nat) : Int) by omega,
    show (128 : Int) = ((128 : Nat) : Int) from rfl, u8_or_nat _ _ (by omega) (by omega), or128 _ (by omega), Uv.ofNat_toNat (by omega)]
  congr 1; omega
theorem put_ref_any (x : Nat) (hx : (x : Int) ≤ 18446744073709551615) (w : World) :
    Calls Tryz.prog 30 #[.int .u64 x] w fun e w' => e = .returned (.string ⟨(Uv.put x).toArray⟩) ∧ Below w.heap.size w w' := by
  go_enter Tryz.func30, Tryz.ntmps30
  go_wp2
  go_loopw [0, 3] (fun y v wr => ∃ (z : Nat) (l : List UInt8), y = .int .u64 z ∧ (z : Int) ≤ 18446744073709551615 ∧ l ++ Uv.put z = Uv.put x ∧ wr.ownsRow w.heap.size 5 1 v l.length (by8 l) ∧ Below w.heap.size w wr)
    (fun y _ _ => (intOf y).toNat)
  case atStart => exact ⟨x, [], rfl, by omega, rfl, World.ownsRow_nil _ _ _ _, Below.refl _ _⟩
  case round =>
    obtain ⟨z, l, rfl, hz, hl, hown, hbel⟩ := hrel
    have hsz := hbel.size
    have hll : l.length ≤ 10 := by
      have h1 := congrArg List.length hl
      have h2 := Uv.put_len x (by omega)
      simp at h1; omega
    have HL := Lib.hid hl
    have HB := Lib.hid hbel
    have HO := Lib.hid hown
    clear hl hbel
    by_cases hlt : (128 : Int) ≤ z
    · go_wp2_with (at_builtin; refine app_u8 _ rfl _ _ rfl w.heap.size _ l [UInt8.ofNat (z % 128 + 128)] ⟨wr.heap.size, 0, none⟩ 1 1 rfl (hown.alloc _) rfl rfl (one_cell _ _ _ (put_byte' z (by omega)) _) (by omega) (by simp; omega) ?_; intro v' w1 hown1 hg1 _)
      go_roundw
      case rel =>
        refine ⟨z / 128, l ++ [UInt8.ofNat (z % 128 + 128)], by simp, by omega, ?_, hown1, below_app HB.out hsz HO.out hg1⟩
        rw [← HL.out, List.append_assoc, Uv.put_step z (by omega) (by omega)]; rfl
      case measure => simp [intOf]; omega
    · have hfin : Hid (l ++ [UInt8.ofNat z] = Uv.put x) := show _ = _ by rw [← HL.out, Uv.put_small z (by omega)]
      go_wp2_with (at_builtin; refine app_u8 _ rfl _ _ rfl w.heap.size _ l [UInt8.ofNat z] ⟨wr.heap.size, 0, none⟩ 1 1 rfl (hown.alloc _) rfl rfl (one_cell _ _ _ (last_byte z (by omega)) _) (by omega) (by simp; omega) ?_; intro v' w1 hown1 hg1 _; have hcv := conv_own hown1)
      go_ret
      exact ⟨by rw [← hfin.out]; rfl, below_app HB.out hsz HO.out hg1⟩

theorem drop_at (s : ByteArray) (k : Nat) (h : k < s.size) : s.data.toList.drop k = s[k] :: s.data.toList.drop (k + 1) := by
  rw [List.drop_eq_getElem_cons (by simpa using h)]; rfl
theorem acc_eq {a k n : Nat} (hb : n < 256) (ha : a < 128 ^ k) (hk : k < 10) (h9 : k = 9 → n % 128 ≤ 1) :
    bits .or .u64 (a : Int) (IntKind.u64.wrap (IntKind.u64.wrap (bits .and .u8 (n : Int) 127) * 2 ^ (7 * k))) = ((a + n % 128 * 128 ^ k : Nat) : Int) := by
  rw [show (127 : Int) = ((127 : Nat) : Int) from rfl, u8_and_nat _ _ (by omega) (by omega), nat_mask7, IntWalk.u64_in ((n % 128 : Nat) : Int) (by omega), IntKind.wrap_u64]
  rw [show ((n % 128 : Nat) : Int) * 2 ^ (7 * k) % 18446744073709551616 = ((n % 128 * 2 ^ (7 * k) % 18446744073709551616 : Nat) : Int) by simp]
  rw [u64_or_nat _ _ (Uv.acc_lt (by omega) ha) (Nat.mod_lt _ (by omega)), Uv.join ha hk (by omega) h9]
theorem acc_eq9 {a : Nat} (ha : a < 128 ^ 9) : bits .or .u64 (a : Int) (IntKind.u64.wrap (IntKind.u64.wrap (bits .and .u8 1 127) * 9223372036854775808)) = ((a + 1 % 128 * 128 ^ 9 : Nat) : Int) := by
  have := acc_eq (k := 9) (n := 1) (by omega) ha (by omega) (by omega)
  rw [show ((2 : Int) ^ (7 * 9)) = 9223372036854775808 by decide] at this
  exact this
theorem ret_uv {a b c d : Int} {t : Bool} (h : a = b) (h' : c = d) : Ending.returned (.tuple #[.int .u64 a, .int .i64 c, .bool t]) = .returned (.tuple #[.int .u64 b, .int .i64 d, .bool t]) := by rw [h, h']
set_option maxHeartbeats 600000 in
theorem uv_any (s : ByteArray) (hs : s.size ≤ 9223372036854775807) (w : World) :
    Calls Tryz.prog 46 #[.string s] w fun e w' => e = .returned (.tuple #[.int .u64 (Uv.uvX s.data.toList), .int .i64 (Uv.uvN s.data.toList), .bool (Uv.uvB s.data.toList)]) ∧ w = w' := by
  go_enter Tryz.func46, Tryz.ntmps46
  go_wp2
  all_goals
    go_loop [5, 11] (fun x i => ∃ k a : Nat, k ≤ s.size ∧ k ≤ 10 ∧ i = .int .i64 k ∧ x = .int .u64 a ∧ a < 128 ^ k ∧ Uv.rd k a (s.data.toList.drop k) = Uv.rd 0 0 s.data.toList) (fun _ i => 10 - (intOf i).toNat)
    case atStart => exact ⟨0, 0, Nat.zero_le _, by omega, rfl, rfl, by simp, rfl⟩
    case round =>
      obtain ⟨k, a, hk, hk10, rfl, rfl, ha, hr⟩ := hrel
      have HA := Lib.hid ha
      have HR := Lib.hid hr
      clear ha hr
      by_cases hlt : k < s.size ∧ k < 10
      · obtain ⟨h1, h2⟩ := hlt
        have hb0 := s[k].toNat_lt
        obtain ⟨n, hn⟩ : ∃ n, s[k].toNat = n := ⟨_, rfl⟩
        have hb : (n : Int) ≤ 255 := by omega
        clear hb0
        have ha64 : (a : Int) ≤ 18446744073709551615 := by have := Uv.acc_lt (by omega) HA.out; omega
        have H1 := Lib.hid h1
        have HD : Hid (∃ c : UInt8, c.toNat = n ∧ s.data.toList.drop k = c :: s.data.toList.drop (k + 1)) := ⟨s[k], hn, drop_at s k h1⟩
        by_cases h9 : k = 9
        · subst h9
          by_cases g1 : (1 : Int) < n
          · have hd : Uv.rd 0 0 s.data.toList = none := by
              obtain ⟨c, hc, hcd⟩ := HD.out
              rw [← HR.out, hcd]; exact Uv.rd_nine _ _ (by omega)
            have HN := Lib.hid hd
            clear hd
            go_wp2
            go_ret3
            refine ⟨?_, rfl⟩
            rw [(Uv.uv_none HN.out).1, (Uv.uv_none HN.out).2.1, (Uv.uv_none HN.out).2.2]; rfl
          · by_cases h0 : n = 0
            · have hd : Uv.rd 0 0 s.data.toList = none := by
                obtain ⟨c, hc, hcd⟩ := HD.out
                rw [← HR.out, hcd]; exact Uv.rd_zero 9 a _ h2 (by omega) (by omega) (by omega)
              have HN := Lib.hid hd
              clear hd
              subst h0
              go_wp2
              go_ret3
              refine ⟨?_, rfl⟩
              rw [(Uv.uv_none HN.out).1, (Uv.uv_none HN.out).2.1, (Uv.uv_none HN.out).2.2]; rfl
            · obtain rfl : n = 1 := by omega
              have hd : Uv.rd 0 0 s.data.toList = some (a + 1 % 128 * 128 ^ 9, 9 + 1) := by
                obtain ⟨c, hc, hcd⟩ := HD.out
                have h := Uv.rd_last (b := c) 9 a (s.data.toList.drop (9 + 1)) h2 (by omega) (by omega) (by omega)
                rw [hc] at h
                rw [← HR.out, hcd]; exact h
              have HN := Lib.hid hd
              clear hd
              go_wp2
              go_ret3
              refine ⟨?_, rfl⟩
              rw [(Uv.uv_some HN.out).1, (Uv.uv_some HN.out).2.1, (Uv.uv_some HN.out).2.2]
              exact ret_uv (acc_eq9 HA.out) rfl
        · by_cases h128 : (128 : Int) ≤ n
          · go_wp2
            go_round
            case rel =>
              refine ⟨k + 1, a + n % 128 * 128 ^ k, by have := H1.out; omega, by omega, by go_num, int_u64 (acc_eq (by omega) HA.out h2 (by omega)), Uv.join_lt HA.out (Nat.mod_lt _ (by omega)), ?_⟩
              obtain ⟨c, hc, hcd⟩ := HD.out
              rw [← HR.out, hcd, Uv.rd_more k a _ h2 (by omega) (by omega), hc]
            case measure => simp [intOf]; omega
          · by_cases h0 : n = 0 ∧ 0 < k
            · have hd : Uv.rd 0 0 s.data.toList = none := by
                obtain ⟨c, hc, hcd⟩ := HD.out
                rw [← HR.out, hcd]; exact Uv.rd_zero k a _ h2 (by omega) (by omega) (by omega)
              have HN := Lib.hid hd
              clear hd
              go_wp2
              all_goals
                go_ret3
                refine ⟨?_, rfl⟩
                rw [(Uv.uv_none HN.out).1, (Uv.uv_none HN.out).2.1, (Uv.uv_none HN.out).2.2]; rfl
            · have hd : Uv.rd 0 0 s.data.toList = some (a + n % 128 * 128 ^ k, k + 1) := by
                obtain ⟨c, hc, hcd⟩ := HD.out
                rw [← HR.out, hcd, ← hc]; exact Uv.rd_last k a _ h2 (by omega) (by omega) (by omega)
              have HN := Lib.hid hd
              clear hd
              by_cases h00 : n = 0
              · subst h00
                go_wp2
                go_ret3
                refine ⟨?_, rfl⟩
                rw [(Uv.uv_some HN.out).1, (Uv.uv_some HN.out).2.1, (Uv.uv_some HN.out).2.2]
                exact ret_uv (acc_eq (n := 0) (by omega) HA.out h2 (by omega)) (by omega)
              · clear h0
                go_wp2
                go_ret3
                refine ⟨?_, rfl⟩
                rw [(Uv.uv_some HN.out).1, (Uv.uv_some HN.out).2.1, (Uv.uv_some HN.out).2.2]
                exact ret_uv (acc_eq (by omega) HA.out h2 (by omega)) (by omega)
      · have hd : Uv.rd 0 0 s.data.toList = none := by
          rw [← HR.out]
          by_cases hk : k = 10
          · rw [hk]; exact Uv.rd_ten _ _
          · rw [List.drop_of_length_le (by simp; omega)]; rfl
        have HN := Lib.hid hd
        clear hd
        go_wp2
        go_ret3
        refine ⟨?_, rfl⟩
        rw [(Uv.uv_none HN.out).1, (Uv.uv_none HN.out).2.1, (Uv.uv_none HN.out).2.2]; rfl
theorem acc_ref {a k n : Nat} (hb : n < 256) (ha : a < 128 ^ k) (hk : k < 10) (h9 : k = 9 → n % 128 ≤ 1) :
    bits .or .u64 (a : Int) (IntKind.u64.wrap (bits .and .u64 (n : Int) 127 * 2 ^ (7 * k))) = ((a + n % 128 * 128 ^ k : Nat) : Int) := by
  rw [show (127 : Int) = ((127 : Nat) : Int) from rfl, u64_and_nat _ _ (by omega) (by omega), nat_mask7, IntKind.wrap_u64]
  rw [show ((n % 128 : Nat) : Int) * 2 ^ (7 * k) % 18446744073709551616 = ((n % 128 * 2 ^ (7 * k) % 18446744073709551616 : Nat) : Int) by simp]
  rw [u64_or_nat _ _ (Uv.acc_lt (by omega) ha) (Nat.mod_lt _ (by omega)), Uv.join ha hk (by omega) h9]
theorem acc_ref9 {a : Nat} (ha : a < 128 ^ 9) : bits .or .u64 (a : Int) (IntKind.u64.wrap (bits .and .u64 1 127 * 9223372036854775808)) = ((a + 1 % 128 * 128 ^ 9 : Nat) : Int) := by
  have := acc_ref (k := 9) (n := 1) (by omega) ha (by omega) (by omega)
  rw [show ((2 : Int) ^ (7 * 9)) = 9223372036854775808 by decide] at this
  exact this
set_option maxHeartbeats 600000 in
theorem uv_ref_any (s : ByteArray) (hs : s.size ≤ 9223372036854775807) (w : World) :
    Calls Tryz.prog 50 #[.string s] w fun e w' => e = .returned (.tuple #[.int .u64 (Uv.uvX s.data.toList), .int .i64 (Uv.uvN s.data.toList), .bool (Uv.uvB s.data.toList)]) ∧ w = w' := by
  go_enter Tryz.func50, Tryz.ntmps50
  go_wp2
  all_goals
    go_loop [5, 6] (fun x i => ∃ k a : Nat, k ≤ s.size ∧ k ≤ 10 ∧ i = .int .i64 k ∧ x = .int .u64 a ∧ a < 128 ^ k ∧ Uv.rd k a (s.data.toList.drop k) = Uv.rd 0 0 s.data.toList) (fun _ i => 10 - (intOf i).toNat)
    case atStart => exact ⟨0, 0, Nat.zero_le _, by omega, rfl, rfl, by simp, rfl⟩
    case round =>
      obtain ⟨k, a, hk, hk10, rfl, rfl, ha, hr⟩ := hrel
      have HA := Lib.hid ha
      have HR := Lib.hid hr
      clear ha hr
      by_cases hlt : k < s.size ∧ k < 10
      · obtain ⟨h1, h2⟩ := hlt
        have hb0 := s[k].toNat_lt
        obtain ⟨n, hn⟩ : ∃ n, s[k].toNat = n := ⟨_, rfl⟩
        have hb : (n : Int) ≤ 255 := by omega
        clear hb0
        have ha64 : (a : Int) ≤ 18446744073709551615 := by have := Uv.acc_lt (by omega) HA.out; omega
        have H1 := Lib.hid h1
        have HD : Hid (∃ c : UInt8, c.toNat = n ∧ s.data.toList.drop k = c :: s.data.toList.drop (k + 1)) := ⟨s[k], hn, drop_at s k h1⟩
        by_cases h9 : k = 9
        · subst h9
          by_cases g1 : (1 : Int) < n
          · have hd : Uv.rd 0 0 s.data.toList = none := by
              obtain ⟨c, hc, hcd⟩ := HD.out
              rw [← HR.out, hcd]; exact Uv.rd_nine _ _ (by omega)
            have HN := Lib.hid hd
            clear hd
            go_wp2
            go_ret3
            refine ⟨?_, rfl⟩
            rw [(Uv.uv_none HN.out).1, (Uv.uv_none HN.out).2.1, (Uv.uv_none HN.out).2.2]; rfl
          · by_cases h0 : n = 0
            · have hd : Uv.rd 0 0 s.data.toList = none := by
                obtain ⟨c, hc, hcd⟩ := HD.out
                rw [← HR.out, hcd]; exact Uv.rd_zero 9 a _ h2 (by omega) (by omega) (by omega)
              have HN := Lib.hid hd
              clear hd
              subst h0
              go_wp2
              go_ret3
              refine ⟨?_, rfl⟩
              rw [(Uv.uv_none HN.out).1, (Uv.uv_none HN.out).2.1, (Uv.uv_none HN.out).2.2]; rfl
            · obtain rfl : n = 1 := by omega
              have hd : Uv.rd 0 0 s.data.toList = some (a + 1 % 128 * 128 ^ 9, 9 + 1) := by
                obtain ⟨c, hc, hcd⟩ := HD.out
                have h := Uv.rd_last (b := c) 9 a (s.data.toList.drop (9 + 1)) h2 (by omega) (by omega) (by omega)
                rw [hc] at h
                rw [← HR.out, hcd]; exact h
              have HN := Lib.hid hd
              clear hd
              go_wp2
              go_ret3
              refine ⟨?_, rfl⟩
              rw [(Uv.uv_some HN.out).1, (Uv.uv_some HN.out).2.1, (Uv.uv_some HN.out).2.2]
              exact ret_uv (acc_ref9 HA.out) rfl
        · by_cases h128 : (128 : Int) ≤ n
          · go_wp2
            go_round
            case rel =>
              refine ⟨k + 1, a + n % 128 * 128 ^ k, by have := H1.out; omega, by omega, by go_num, int_u64 (acc_ref (by omega) HA.out h2 (by omega)), Uv.join_lt HA.out (Nat.mod_lt _ (by omega)), ?_⟩
              obtain ⟨c, hc, hcd⟩ := HD.out
              rw [← HR.out, hcd, Uv.rd_more k a _ h2 (by omega) (by omega), hc]
            case measure => simp [intOf]; omega
          · by_cases h0 : n = 0 ∧ 0 < k
            · have hd : Uv.rd 0 0 s.data.toList = none := by
                obtain ⟨c, hc, hcd⟩ := HD.out
                rw [← HR.out, hcd]; exact Uv.rd_zero k a _ h2 (by omega) (by omega) (by omega)
              have HN := Lib.hid hd
              clear hd
              go_wp2
              all_goals
                go_ret3
                refine ⟨?_, rfl⟩
                rw [(Uv.uv_none HN.out).1, (Uv.uv_none HN.out).2.1, (Uv.uv_none HN.out).2.2]; rfl
            · have hd : Uv.rd 0 0 s.data.toList = some (a + n % 128 * 128 ^ k, k + 1) := by
                obtain ⟨c, hc, hcd⟩ := HD.out
                rw [← HR.out, hcd, ← hc]; exact Uv.rd_last k a _ h2 (by omega) (by omega) (by omega)
              have HN := Lib.hid hd
              clear hd
              by_cases h00 : n = 0
              · subst h00
                go_wp2
                go_ret3
                refine ⟨?_, rfl⟩
                rw [(Uv.uv_some HN.out).1, (Uv.uv_some HN.out).2.1, (Uv.uv_some HN.out).2.2]
                exact ret_uv (acc_ref (n := 0) (by omega) HA.out h2 (by omega)) (by omega)
              · clear h0
                go_wp2
                all_goals
                  go_ret3
                  refine ⟨?_, rfl⟩
                  rw [(Uv.uv_some HN.out).1, (Uv.uv_some HN.out).2.1, (Uv.uv_some HN.out).2.2]
                  exact ret_uv (acc_ref (by omega) HA.out h2 (by omega)) (by omega)
      · have hd : Uv.rd 0 0 s.data.toList = none := by
          rw [← HR.out]
          by_cases hk : k = 10
          · rw [hk]; exact Uv.rd_ten _ _
          · rw [List.drop_of_length_le (by simp; omega)]; rfl
        have HN := Lib.hid hd
        clear hd
        by_cases h1 : k < s.size
        · go_wp2
          go_ret3
          refine ⟨?_, rfl⟩
          rw [(Uv.uv_none HN.out).1, (Uv.uv_none HN.out).2.1, (Uv.uv_none HN.out).2.2]; rfl
        · go_wp2
          go_ret3
          refine ⟨?_, rfl⟩
          rw [(Uv.uv_none HN.out).1, (Uv.uv_none HN.out).2.1, (Uv.uv_none HN.out).2.2]; rfl
/-- '[]byte(s)': a new block. -/
theorem bytes_of (s : ByteArray) (w : World) : ∃ (C : Array Value) (cap : Nat), s.size ≤ C.size ∧ (∀ i (h : i < s.size), C[i]? = some (.int .u8 s[i].toNat)) ∧
    (convert 9 37 (.string s)).run Tryz.prog w = .ok (.slice (some ⟨w.heap.size, 0, none⟩) s.size cap) (w.drew.alloc (.cells C 5 (C.size, C.size + 1))) := by
  refine ⟨bytesRow s (grownCap w s.size 0 5), grownCap w s.size 0 5, ?_, fun i h => bytesRow_at s _ i h, run_bytes_of_string (P := Tryz.prog) w 9 37 5 s Tryz.underlying9 Tryz.underlying37 Tryz.underlying5⟩
  rcases Nat.lt_or_ge (bytesRow s (grownCap w s.size 0 5)).size s.size with h | h
  · have := bytesRow_at s (grownCap w s.size 0 5) _ h
    simp at this
  · exact h
theorem bytes_back (w : World) (a : Addr) (cap : Nat) (l : List UInt8) (hc : ∀ j (hj : j < l.length), w.cell? (a.add j) = some (.int .u8 (l[j].toNat : Int))) :
    (convert 37 9 (.slice (some a) l.length cap)).run Tryz.prog w = .ok (.string ⟨l.toArray⟩) w :=
  run_convert_bytes_back w _ _ 5 a cap l Tryz.underlying37 Tryz.underlying5 Tryz.underlying9 hc
end Strs
end Go.Proofs.YtdacgdokbfcgdaaGreat

namespace Go.Proofs.YtdacgdokbfcgdaaGreat.Lg
set_option linter.unusedVariables false
open Uv
/-- The start of the hash. -/
def HS : Nat := 14695981039346656037
/-- Eight bytes, the most significant one first. -/
def be8 (x : Nat) : List UInt8 := (List.range 8).map fun i => UInt8.ofNat (x / 256 ^ (7 - i) % 256)
theorem be8_len (x : Nat) : (be8 x).length = 8 := by simp [be8]
/-- A reader reads a number: the number, what is left, is it bad. -/
def numR (l : List UInt8) (bad : Bool) : Nat × List UInt8 × Bool := if (uvB l && !bad) = true then (uvX l, l.drop (uvN l), false) else (0, l, true)
/-- .. so many bytes. -/
def bytesR (n : Nat) (l : List UInt8) (bad : Bool) : List UInt8 × List UInt8 × Bool := if (bad || decide (l.length < n)) = true then ([], l, true) else (l.take n, l.drop n, false)
def dataR (l : List UInt8) (bad : Bool) : List UInt8 × List UInt8 × Bool := bytesR (numR l bad).1 (numR l bad).2.1 (numR l bad).2.2
def packed (seq : Nat) (body : List UInt8) : List UInt8 := put seq ++ put body.length ++ body ++ be8 (Hs.hash HS (put seq ++ put body.length ++ body))
def packS (seq : Nat) (body : List UInt8) : List UInt8 := put seq ++ put body.length ++ body
theorem packed_eq (seq : Nat) (body : List UInt8) : packed seq body = packS seq body ++ be8 (Hs.hash HS (packS seq body)) := rfl
def opR (l : List UInt8) : List UInt8 × List UInt8 × Bool := dataR (numR l false).2.1 (numR l false).2.2
def opens (l : List UInt8) : Nat × List UInt8 × Int :=
  if ((opR l).2.2 || decide ((opR l).2.1.length ≠ 8)) = true then (0, [], 1900)
  else if be8 (Hs.hash HS (l.take (l.length - 8))) ≠ (opR l).2.1 then (0, [], 1903)
  else ((numR l false).1, (opR l).1, 0)
theorem numR_put (x : Nat) (hx : x < 18446744073709551616) (t : List UInt8) : numR (put x ++ t) false = (x, t, false) := by
  have h := uv_some (rd_put x hx t)
  unfold numR
  rw [h.1, h.2.1, h.2.2, List.drop_left]; rfl
theorem numR_len (l : List UInt8) (b : Bool) : (numR l b).2.1.length ≤ l.length := by unfold numR; split <;> simp
theorem numR_lt (l : List UInt8) (b : Bool) : (numR l b).1 < 18446744073709551616 := by
  unfold numR; split
  · exact uvX_lt l
  · exact Nat.zero_lt_succ _
theorem bytesR_len (n : Nat) (l : List UInt8) (b : Bool) : (bytesR n l b).1.length ≤ l.length ∧ (bytesR n l b).2.1.length ≤ l.length := by
  unfold bytesR; split <;> simp [List.length_take]; omega
theorem opens_packed (n : Nat) (b : List UInt8) (hn : n < 18446744073709551616) (hb : b.length < 18446744073709551616) : opens (packed n b) = (n, b, 0) := by
  have h1 : numR (packed n b) false = (n, put b.length ++ (b ++ be8 (Hs.hash HS (packS n b))), false) := by
    have : packed n b = put n ++ (put b.length ++ (b ++ be8 (Hs.hash HS (packS n b)))) := by rw [packed_eq]; unfold packS; simp
    rw [this]; exact numR_put n hn _
  have h2 : opR (packed n b) = (b, be8 (Hs.hash HS (packS n b)), false) := by
    unfold opR dataR
    rw [h1]
    simp only
    rw [numR_put b.length hb]
    unfold bytesR
    simp
  have h3 : (packed n b).take ((packed n b).length - 8) = packS n b := by
    have hl : (packed n b).length - 8 = (packS n b).length := by rw [packed_eq, List.length_append, be8_len]; omega
    rw [hl, packed_eq]; exact List.take_left
  unfold opens
  rw [h2, h1, h3]
  simp [be8_len]
end Go.Proofs.YtdacgdokbfcgdaaGreat.Lg

namespace Go.Proofs.YtdacgdokbfcgdaaGreat
open Go.RowKit
namespace Lgc
open Lg Strs
theorem box_cell {w : World} {q : Nat} {cs : Array Value} {t : TypeId} (h : w.heap[q]? = some (.cells cs t (0, 0))) (j : Nat) {v : Value} (hv : cs[j]? = some v) : w.cell? ⟨q, j, none⟩ = some v := by simp [World.cell?, h, hv]
theorem box_free {w : World} {q : Nat} {cs : Array Value} {t : TypeId} (h : w.heap[q]? = some (.cells cs t (0, 0))) (j : Nat) : w.frozen? ⟨q, j, none⟩ = false := by simp [World.frozen?, h]
theorem box_set {w : World} {q : Nat} {cs : Array Value} {t : TypeId} (h : w.heap[q]? = some (.cells cs t (0, 0))) (j : Nat) (v : Value) : (w.setCell ⟨q, j, none⟩ v).heap[q]? = some (.cells (cs.setIfInBounds j v) t (0, 0)) := by
  simp [World.setCell, Array.getElem?_modify, h]
theorem box_new (w : World) (o : Obj) : (w.alloc o).heap[w.heap.size]? = some o := heap_alloc_new w o
theorem box_lt {w : World} {q : Nat} {o : Obj} (h : w.heap[q]? = some o) : q < w.heap.size := (Array.getElem?_eq_some_iff.1 h).1
theorem grown_set (w : World) (q j : Nat) (v : Value) : w.grownBy (w.setCell ⟨q, j, none⟩ v) (some q) :=
  ⟨rfl, rfl, rfl, by simp [World.setCell], fun k hk hne => by simp [World.setCell, Array.getElem?_modify]; intro e; exact absurd (by rw [e]) hne⟩
theorem grown_trans {w a b : World} {r : Option Nat} (h : w.grownBy a r) (k : a.grownBy b r) : w.grownBy b r :=
  ⟨k.os.trans h.os, k.tape.trans h.tape, k.output.trans h.output, Nat.le_trans h.size k.size, fun q hq hr => (k.block q (Nat.lt_of_lt_of_le hq h.size) hr).trans (h.block q hq hr)⟩
theorem grown_held {w a : World} {r : Option Nat} (h : Held w a) : w.grownBy a r := ⟨h.os, h.tape, h.output, h.size, fun q hq _ => h.block q hq⟩
theorem held_of {W w a : World} {q : Nat} (h : Held W w) (hg : w.grownBy a (some q)) (hq : W.heap.size ≤ q) : Held W a :=
  Below.grown h hg h.size (fun k hk => by injection hk with hk; omega)
theorem ext_drop (t : ByteArray) (q : Nat) : (t.extract q t.size).data.toList = t.data.toList.drop q := by
  rw [ByteArray.data_extract, Array.toList_extract, List.extract_eq_take_drop, List.take_of_length_le (by simp)]
theorem ext_take (t : ByteArray) (q : Nat) : (t.extract 0 q).data.toList = t.data.toList.take q := by
  rw [ByteArray.data_extract, Array.toList_extract, List.extract_eq_take_drop]; simp
theorem len_eq (t : ByteArray) : t.data.toList.length = t.size := by simp
/-- What a reader leaves in its box. -/
def Left (T : TypeId) (b : Nat) (l : List UInt8) (bad : Bool) (w w' : World) : Prop := ∃ s : ByteArray, s.data.toList = l ∧ w'.heap[b]? = some (.cells #[.string s, .bool bad] T (0, 0)) ∧ w.grownBy w' (some b)
def Reads (T : TypeId) (v : Value) (b : Nat) (l : List UInt8) (bad : Bool) (w : World) (e : Ending) (w' : World) : Prop := e = .returned v ∧ Left T b l bad w w'
theorem numR_yes {l : List UInt8} (h : Uv.uvB l = true) : numR l false = (Uv.uvX l, l.drop (Uv.uvN l), false) := by unfold numR; rw [h]; rfl
theorem numR_no {l : List UInt8} {b : Bool} (h : (Uv.uvB l && !b) = false) : numR l b = (0, l, true) := by unfold numR; rw [h]; rfl
theorem number_any (b : Nat) (s : ByteArray) (bad : Bool) (hs : s.size ≤ 9223372036854775807) (w : World) (hb : w.heap[b]? = some (.cells #[.string s, .bool bad] 87 (0, 0))) :
    Calls Tryz.prog 32 #[.pointer (some ⟨b, 0, none⟩)] w (Reads 87 (.int .u64 (numR s.data.toList bad).1) b (numR s.data.toList bad).2.1 (numR s.data.toList bad).2.2 w) := by
  have c0 : w.cell? ⟨b, 0, none⟩ = some (.string s) := box_cell hb 0 rfl
  have c1 : w.cell? ⟨b, 1, none⟩ = some (.bool bad) := box_cell hb 1 rfl
  have f0 := box_free hb 0
  have f1 := box_free hb 1
  have HB := Lib.hid hb
  clear hb
  have hn := Uv.uvN_le s.data.toList
  rw [len_eq] at hn
  cases hu : Uv.uvB s.data.toList
  · have H := Lib.hid (numR_no (l := s.data.toList) (b := bad) (by rw [hu]; rfl))
    go_enter Tryz.func32, Tryz.ntmps32
    go_wp2_with (go_at_call 46; refine (uv_any s hs _).mono ?_; rintro e w' ⟨rfl, rfl⟩; rw [hu])
    go_ret
    refine ⟨by rw [H.out]; rfl, s, by rw [H.out], ?_, grown_set _ _ _ _⟩
    rw [H.out, box_set HB.out]; rfl
  · have HN := Lib.hid hu
    obtain ⟨n, hn'⟩ : ∃ n, Uv.uvN s.data.toList = n := ⟨_, rfl⟩
    have HNN := Lib.hid hn'
    rw [hn'] at hn
    clear hn'
    have i1 : (n : Int) ≤ (s.size : Int) := by omega
    cases bad
    · have H := Lib.hid (numR_yes hu)
      clear hu
      go_enter Tryz.func32, Tryz.ntmps32
      go_wp2_with (go_at_call 46; refine (uv_any s hs _).mono ?_; rintro e w' ⟨rfl, rfl⟩; rw [HN.out, HNN.out])
      go_ret
      refine ⟨by rw [H.out]; rfl, s.extract n s.size, by rw [H.out, HNN.out, ext_drop], ?_, grown_set _ _ _ _⟩
      rw [H.out, box_set HB.out]; rfl
    · have H := Lib.hid (numR_no (l := s.data.toList) (b := true) (by simp))
      clear hu
      go_enter Tryz.func32, Tryz.ntmps32
      go_wp2_with (go_at_call 46; refine (uv_any s hs _).mono ?_; rintro e w' ⟨rfl, rfl⟩; rw [HN.out])
      go_ret
      refine ⟨by rw [H.out]; rfl, s, by rw [H.out], ?_, grown_set _ _ _ _⟩
      rw [H.out, box_set HB.out]; rfl
theorem number_ref_any (b : Nat) (s : ByteArray) (bad : Bool) (hs : s.size ≤ 9223372036854775807) (w : World) (hb : w.heap[b]? = some (.cells #[.string s, .bool bad] 92 (0, 0))) :
    Calls Tryz.prog 34 #[.pointer (some ⟨b, 0, none⟩)] w (Reads 92 (.int .u64 (numR s.data.toList bad).1) b (numR s.data.toList bad).2.1 (numR s.data.toList bad).2.2 w) := by
  have c0 : w.cell? ⟨b, 0, none⟩ = some (.string s) := box_cell hb 0 rfl
  have c1 : w.cell? ⟨b, 1, none⟩ = some (.bool bad) := box_cell hb 1 rfl
  have f0 := box_free hb 0
  have f1 := box_free hb 1
  have HB := Lib.hid hb
  clear hb
  have hn := Uv.uvN_le s.data.toList
  rw [len_eq] at hn
  have HN0 := fun (x : Bool) (h : Uv.uvB s.data.toList = x) => Lib.hid h
  obtain ⟨n, hn'⟩ : ∃ n, Uv.uvN s.data.toList = n := ⟨_, rfl⟩
  have HNN := Lib.hid hn'
  rw [hn'] at hn
  clear hn'
  have i1 : (n : Int) ≤ (s.size : Int) := by omega
  cases bad
  · cases hu : Uv.uvB s.data.toList
    · have H := Lib.hid (numR_no (l := s.data.toList) (b := false) (by rw [hu]; rfl))
      have HN := HN0 _ hu
      clear hu HN0
      go_enter Tryz.func34, Tryz.ntmps34
      go_wp2_with (go_at_call 50; refine (uv_ref_any s hs _).mono ?_; rintro e w' ⟨rfl, rfl⟩; rw [HN.out])
      go_ret
      refine ⟨by rw [H.out]; rfl, s, by rw [H.out], ?_, grown_set _ _ _ _⟩
      rw [H.out, box_set HB.out]; rfl
    · have H := Lib.hid (numR_yes hu)
      have HN := HN0 _ hu
      clear hu HN0
      go_enter Tryz.func34, Tryz.ntmps34
      go_wp2_with (go_at_call 50; refine (uv_ref_any s hs _).mono ?_; rintro e w' ⟨rfl, rfl⟩; rw [HN.out, HNN.out])
      go_ret
      refine ⟨by rw [H.out]; rfl, s.extract n s.size, by rw [H.out, HNN.out, ext_drop], ?_, grown_set _ _ _ _⟩
      rw [H.out, box_set HB.out]; rfl
  · have H := Lib.hid (numR_no (l := s.data.toList) (b := true) (by simp))
    clear HN0
    go_enter Tryz.func34, Tryz.ntmps34
    go_wp2_with (go_at_call 50; refine (uv_ref_any s hs _).mono ?_; rintro e w' ⟨rfl, rfl⟩)
    go_ret
    refine ⟨by rw [H.out]; rfl, s, by rw [H.out], ?_, grown_set _ _ _ _⟩
    rw [H.out, box_set HB.out]; rfl
def ReadsS (T : TypeId) (d : List UInt8) (b : Nat) (l : List UInt8) (bad : Bool) (w : World) (e : Ending) (w' : World) : Prop := ∃ t : ByteArray, e = .returned (.string t) ∧ t.data.toList = d ∧ Left T b l bad w w'
theorem bytesR_no {n : Nat} {l : List UInt8} {b : Bool} (h : (b || decide (l.length < n)) = true) : bytesR n l b = ([], l, true) := by unfold bytesR; rw [if_pos h]
theorem bytesR_yes {n : Nat} {l : List UInt8} (h : ¬ l.length < n) : bytesR n l false = (l.take n, l.drop n, false) := by unfold bytesR; rw [if_neg (by simp; omega)]
theorem data_any (b : Nat) (s : ByteArray) (bad : Bool) (hs : s.size ≤ 9223372036854775807) (w : World) (hb : w.heap[b]? = some (.cells #[.string s, .bool bad] 87 (0, 0))) :
    Calls Tryz.prog 42 #[.pointer (some ⟨b, 0, none⟩)] w (ReadsS 87 (dataR s.data.toList bad).1 b (dataR s.data.toList bad).2.1 (dataR s.data.toList bad).2.2 w) := by
  have hll := numR_len s.data.toList bad
  have hlt := numR_lt s.data.toList bad
  rw [len_eq] at hll
  have HD : Hid (dataR s.data.toList bad = bytesR (numR s.data.toList bad).1 (numR s.data.toList bad).2.1 (numR s.data.toList bad).2.2) := rfl
  have hnum := Lib.hid (number_any b s bad hs w hb)
  obtain ⟨⟨n, l1, b1⟩, hN⟩ : ∃ x, numR s.data.toList bad = x := ⟨_, rfl⟩
  rw [hN] at hll hlt HD hnum
  simp only at hll hlt HD hnum
  clear hN
  go_enter Tryz.func42, Tryz.ntmps42
  go_wp2_with fail
  refine hnum.out.mono ?_
  rintro e w1 ⟨rfl, s1, hs1, hb1, hg1⟩
  have hsz : s1.size = l1.length := by rw [← hs1, len_eq]
  have i1 : (s1.size : Int) ≤ 9223372036854775807 := by omega
  have hn64 : (n : Int) ≤ 18446744073709551615 := by omega
  have c0 : w1.cell? ⟨b, 0, none⟩ = some (.string s1) := box_cell hb1 0 rfl
  have c1 : w1.cell? ⟨b, 1, none⟩ = some (.bool b1) := box_cell hb1 1 rfl
  have f0 := box_free hb1 0
  have f1 := box_free hb1 1
  have HB := Lib.hid hb1
  have HG := Lib.hid hg1
  have HS1 := Lib.hid hs1
  have HSZ := Lib.hid hsz
  clear hb1 hg1 hs1 hsz hb hnum hll hlt
  cases b1
  · by_cases hlt : (s1.size : Int) < (n : Int)
    · have H := Lib.hid (HD.out.trans (bytesR_no (by rw [← HSZ.out]; simp; omega)))
      go_wp2
      go_ret
      refine ⟨_, rfl, by rw [H.out], s1, by rw [H.out]; exact HS1.out, ?_, grown_trans HG.out (grown_set _ _ _ _)⟩
      rw [H.out, box_set HB.out]; rfl
    · have H := Lib.hid (HD.out.trans (bytesR_yes (by rw [← HSZ.out]; omega)))
      have i2 : (n : Int) ≤ (s1.size : Int) := by omega
      go_wp2
      go_ret
      refine ⟨_, rfl, by rw [H.out]; exact (ext_take _ _).trans (by rw [HS1.out]), s1.extract n s1.size, by rw [H.out, ext_drop, HS1.out], ?_, grown_trans HG.out (grown_set _ _ _ _)⟩
      rw [H.out, box_set HB.out]; rfl
  · have H := Lib.hid (HD.out.trans (bytesR_no (by simp)))
    go_wp2
    go_ret
    refine ⟨_, rfl, by rw [H.out], s1, by rw [H.out]; exact HS1.out, ?_, grown_trans HG.out (grown_set _ _ _ _)⟩
    rw [H.out, box_set HB.out]; rfl
theorem bytes_ref_any (b : Nat) (s1 : ByteArray) (b1 : Bool) (n : Int) (h0 : 0 ≤ n) (hn64 : n ≤ 18446744073709551615) (hs : s1.size ≤ 9223372036854775807) (w1 : World) (hb1 : w1.heap[b]? = some (.cells #[.string s1, .bool b1] 92 (0, 0))) :
    Calls Tryz.prog 52 #[.pointer (some ⟨b, 0, none⟩), .int .u64 n] w1 (ReadsS 92 (bytesR n.toNat s1.data.toList b1).1 b (bytesR n.toNat s1.data.toList b1).2.1 (bytesR n.toNat s1.data.toList b1).2.2 w1) := by
  obtain ⟨n, rfl⟩ := Int.eq_ofNat_of_zero_le h0
  rw [Int.toNat_natCast]
  have i1 : (s1.size : Int) ≤ 9223372036854775807 := by omega
  have c0 : w1.cell? ⟨b, 0, none⟩ = some (.string s1) := box_cell hb1 0 rfl
  have c1 : w1.cell? ⟨b, 1, none⟩ = some (.bool b1) := box_cell hb1 1 rfl
  have f0 := box_free hb1 0
  have f1 := box_free hb1 1
  have HB := Lib.hid hb1
  have HSZ := Lib.hid (len_eq s1)
  clear hb1
  cases b1
  · by_cases hlt : (s1.size : Int) < (n : Int)
    · have H := Lib.hid (bytesR_no (n := n) (l := s1.data.toList) (b := false) (by rw [HSZ.out]; simp; omega))
      go_enter Tryz.func52, Tryz.ntmps52
      go_wp2
      go_ret
      refine ⟨_, rfl, by rw [H.out], s1, by rw [H.out], ?_, grown_set _ _ _ _⟩
      rw [H.out, box_set HB.out]; rfl
    · have H := Lib.hid (bytesR_yes (n := n) (l := s1.data.toList) (by rw [HSZ.out]; omega))
      have i2 : (n : Int) ≤ (s1.size : Int) := by omega
      go_enter Tryz.func52, Tryz.ntmps52
      go_wp2
      go_ret
      refine ⟨_, rfl, by rw [H.out]; exact ext_take _ _, s1.extract n s1.size, by rw [H.out, ext_drop], ?_, grown_set _ _ _ _⟩
      rw [H.out, box_set HB.out]; rfl
  · have H := Lib.hid (bytesR_no (n := n) (l := s1.data.toList) (b := true) (by simp))
    go_enter Tryz.func52, Tryz.ntmps52
    go_wp2
    go_ret
    refine ⟨_, rfl, by rw [H.out], s1, by rw [H.out], ?_, grown_set _ _ _ _⟩
    rw [H.out, box_set HB.out]; rfl
end Lgc
end Go.Proofs.YtdacgdokbfcgdaaGreat

namespace Go.Proofs.YtdacgdokbfcgdaaGreat
open Go.RowKit
namespace Lgc
open Lg Strs
/-- The call hands back the string of these bytes; what was there stays. -/
def MakesS (l : List UInt8) (w : World) (e : Ending) (w' : World) : Prop := e = .returned (.string ⟨l.toArray⟩) ∧ Held w w'
/-- The bytes written so far. -/
def arr (h : Nat) (k : Nat) : Array Value := ((List.range 8).map fun i => Value.int .u8 (if i < k then ((UInt8.ofNat (h / 256 ^ (7 - i) % 256)).toNat : Int) else 0)).toArray
theorem arr_step (h k : Nat) (hk : k < 8) : (arr h k).setIfInBounds k (.int .u8 ((h / 256 ^ (7 - k) % 256 : Nat) : Int)) = arr h (k + 1) := by
  have e : ((UInt8.ofNat (h / 256 ^ (7 - k) % 256)).toNat : Int) = ((h / 256 ^ (7 - k) % 256 : Nat) : Int) := by rw [Uv.ofNat_toNat (Nat.mod_lt _ (by omega))]
  rw [← e]
  apply Array.ext
  · simp [arr]
  · intro i h1 h2
    simp only [arr, List.size_toArray, List.length_map, List.length_range] at h2
    rw [Array.getElem_setIfInBounds (by simpa [arr] using h2)]
    by_cases hik : k = i
    · subst hik; simp [arr]
    · rw [if_neg hik]
      simp only [arr, List.getElem_toArray, List.getElem_map, List.getElem_range]
      have h3 : (i < k) ↔ (i < k + 1) := by omega
      simp only [h3]
theorem arr_zero (h : Nat) : arr h 0 = #[.int .u8 0, .int .u8 0, .int .u8 0, .int .u8 0, .int .u8 0, .int .u8 0, .int .u8 0, .int .u8 0] := by simp [arr, List.range, List.range.loop]
theorem arr_at (h j : Nat) (hj : j < (be8 h).length) : (arr h 8)[j]? = some (.int .u8 (be8 h)[j].toNat) := by
  rw [be8_len] at hj
  simp [arr, be8, hj]
theorem sum_any (s : ByteArray) (hs : s.size ≤ 9223372036854775807) (w : World) :
    Calls Tryz.prog 43 #[.string s] w (MakesS (be8 (Hs.hash HS s.data.toList)) w) := by
  have hlt : Hs.hash HS s.data.toList < 18446744073709551616 := Hs.hash_lt _ _ (by decide)
  have hh := Lib.hid (hash_any HS s (by decide) hs w)
  generalize Hs.hash HS s.data.toList = h at *
  have hh64 : (h : Int) ≤ 18446744073709551615 := by omega
  clear hlt
  go_enter Tryz.func43, Tryz.ntmps43
  go_wp2_with fail
  refine hh.out.mono ?_
  rintro e w' ⟨rfl, rfl⟩
  go_wp2_with fail
  go_loopw [8] (fun i wr => ∃ k : Nat, k ≤ 8 ∧ i = .int .i64 k ∧ wr.heap[w.heap.size]? = some (.cells (arr h k) 138 (0, 0)) ∧ Held w wr) (fun i _ => 8 - (intOf i).toNat)
  case atStart => exact ⟨0, by omega, rfl, by rw [arr_zero]; exact box_new _ _, (Held.refl _).alloc _⟩
  case round =>
    obtain ⟨k, hk, rfl, hbx, hw⟩ := hrel
    by_cases hk8 : k < 8
    · have HB := Lib.hid hbx
      have HW := Lib.hid hw
      have hst := arr_step h k hk8
      have HST := Lib.hid hst
      have cc : ∃ v, wr.cell? ⟨w.heap.size, k, none⟩ = some v := by
        have hsz : k < (arr h k).size := by simpa [arr] using hk8
        exact ⟨_, box_cell hbx k (Array.getElem?_eq_getElem hsz)⟩
      obtain ⟨cv, c0⟩ := cc
      have f0 := box_free hbx k
      clear hst hbx hw
      obtain rfl | rfl | rfl | rfl | rfl | rfl | rfl | rfl : k = 0 ∨ k = 1 ∨ k = 2 ∨ k = 3 ∨ k = 4 ∨ k = 5 ∨ k = 6 ∨ k = 7 := by omega
      all_goals
        go_wp2
        go_roundw
        case rel =>
          refine ⟨_, ?_, rfl, ?_, HW.out.set (Nat.le_refl _) _⟩
          · decide
          · rw [box_set HB.out, ← HST.out]
            congr 4 <;> first | (simp; done) | (simp; omega)
        case measure => simp [intOf]
    · obtain rfl : k = 8 := by omega
      have hcv := bytes_back wr ⟨w.heap.size, 0, none⟩ 8 (be8 h) (fun j hj => by rw [Strs.addr_add]; exact box_cell hbx j (arr_at h j hj))
      rw [be8_len] at hcv
      go_wp2
      go_ret
      exact ⟨rfl, hw⟩
theorem str_mk {s : ByteArray} {l : List UInt8} (h : s.data.toList = l) : s = ⟨l.toArray⟩ := by subst h; simp
theorem ret_str {s : ByteArray} {l : List UInt8} (h : s.data.toList = l) : Ending.returned (.string s) = .returned (.string ⟨l.toArray⟩) := by rw [str_mk h]
theorem ba_size (a : List UInt8) : (⟨a.toArray⟩ : ByteArray).size = a.length := by simp [ByteArray.size]
set_option maxHeartbeats 400000 in
theorem pack_any (n : Nat) (s : ByteArray) (hn : (n : Int) ≤ 18446744073709551615) (hs : (s.size : Int) ≤ 1000000000000) (w : World) :
    Calls Tryz.prog 20 #[.int .u64 n, .string s] w (MakesS (packed n s.data.toList) w) := by
  have hp1 := Uv.put_len n (by omega)
  have hp2 := Uv.put_len s.size (by omega)
  have H1 := Lib.hid (fun w => put_any n hn w)
  have H2 := Lib.hid (fun w => put_any s.size (by omega) w)
  have HPK : Hid (packed n s.data.toList = packS n s.data.toList ++ be8 (Hs.hash HS (packS n s.data.toList))) := packed_eq _ _
  have HPS : Hid (packS n s.data.toList = Uv.put n ++ Uv.put s.size ++ s.data.toList) := show _ = _ by unfold packS; rw [len_eq]
  generalize Uv.put n = a at hp1 H1 HPS
  generalize Uv.put s.size = b at hp2 H2 HPS
  go_enter Tryz.func20, Tryz.ntmps20
  go_wp2_with fail
  refine (H1.out _).mono ?_
  rintro e w1 ⟨rfl, h1⟩
  go_wp2_with fail
  refine (H2.out _).mono ?_
  rintro e w2 ⟨rfl, h2⟩
  have h12 : Held w w2 := Held.step h1 h2
  have hcat : (({ data := a.toArray } : ByteArray) ++ { data := b.toArray } ++ s).data.toList = packS n s.data.toList := by rw [HPS.out]; simp
  have hsz : (({ data := a.toArray } : ByteArray) ++ { data := b.toArray } ++ s).size ≤ 2000000000000 := by rw [ByteArray.size_append, ByteArray.size_append, ba_size, ba_size]; omega
  have HCT := Lib.hid hcat
  have HZ := Lib.hid hsz
  have HS0 := Lib.hid hsz
  have H12 := Lib.hid h12
  clear hcat hsz h1 h2 h12 H1 H2
  go_wp2_with fail
  generalize (({ data := a.toArray } : ByteArray) ++ { data := b.toArray } ++ s) = q at HCT HZ HS0 ⊢
  refine (sum_any q (by have := HZ.out; omega) _).mono ?_
  rintro e w3 ⟨rfl, h3⟩
  rw [HCT.out]
  have e8 := be8_len (Hs.hash HS (packS n s.data.toList))
  generalize be8 (Hs.hash HS (packS n s.data.toList)) = e8l at e8 HPK ⊢
  have e9 : e8l.length ≤ 8 := by omega
  have e10 := HS0.out
  have E8 := Lib.hid e8
  clear e8
  go_wp2_with fail
  go_ret
  exact ⟨ret_str (by rw [HPK.out]; simp [HCT.out]), H12.out.step h3⟩
end Lgc
end Go.Proofs.YtdacgdokbfcgdaaGreat

namespace Go.Proofs.YtdacgdokbfcgdaaGreat
open Go.RowKit
set_option linter.unusedVariables false
set_option linter.unusedSimpArgs false
set_option maxRecDepth 100000
namespace Ev
open Lgc
/-- The validity of an event, by its kind, its number and its data. -/
def okE (k n : Int) (e : Bool) (len : Nat) : Bool :=
  if k = 1 ∨ k = 6 then e else if k = 2 then decide (n = 0) && e else if k = 3 then decide (n ≤ 255) && e else
  if k = 4 then (if n = 1 then e || decide (len = 128) else decide (n = 0) && e) else if k = 5 then decide (n = 0) && (decide (1 ≤ len) && decide (len ≤ 128)) else false
def ok (k n : Int) (l : List UInt8) : Bool := okE k n (decide (l = [])) l.length
theorem nil_beq {s : ByteArray} {b : Bool} (h : decide (s.data.toList = []) = b) : (s.toList == []) = b := by
  rw [ByteArray.toList_eq]
  subst h
  cases hs : s.data.toList <;> simp
theorem ret_b {a b : Bool} (h : a = b) : Ending.returned (.bool a) = .returned (.bool b) := by rw [h]
set_option maxHeartbeats 1000000 in
theorem valid_any (k n : Int) (s : ByteArray) (hk : -9223372036854775808 ≤ k) (hk' : k ≤ 9223372036854775807) (hn : 0 ≤ n) (hn' : n ≤ 4294967295) (hs : (s.size : Int) ≤ 9223372036854775807) (w : World) : Calls Tryz.prog 21 #[.agg #[.int .i64 k, .int .u32 n, .string s]] w fun e w' => e = .returned (.bool (ok k n s.data.toList)) ∧ Held w w' := by
  have H0 := Lib.hid ((Held.refl w).alloc (.cells #[.int .i64 k, .int .u32 n, .string s] 66))
  have hl : s.data.toList.length = s.size := by simp
  obtain ⟨z, hz⟩ : ∃ z, decide (s.data.toList = []) = z := ⟨_, rfl⟩
  have hb := nil_beq hz
  have h0 : z = true → s.size = 0 := fun h => by rw [← hl]; subst h; rw [of_decide_eq_true hz]; rfl
  have h1 : z = false → 1 ≤ s.size := fun h => by
    rw [← hl]; subst h
    have := of_decide_eq_false hz
    cases hx : s.data.toList with
    | nil => exact absurd hx this
    | cons a t => simp
  rw [show ok k n s.data.toList = okE k n z s.size by unfold ok; rw [hz, hl]]
  clear hz hl
  by_cases k1 : k = 1
  · subst k1
    go_enter Tryz.func21, Tryz.ntmps21
    go_wp2_with fail
    go_ret
    exact ⟨ret_b (by first | (simp [okE]; done) | (rw [Bool.eq_iff_iff]; simp [okE]; omega)), H0.out⟩
  by_cases k6 : k = 6
  · subst k6
    go_enter Tryz.func21, Tryz.ntmps21
    go_wp2_with fail
    go_ret
    exact ⟨ret_b (by first | (simp [okE]; done) | (rw [Bool.eq_iff_iff]; simp [okE]; omega)), H0.out⟩
  by_cases k2 : k = 2
  · subst k2
    by_cases n0 : n = 0
    all_goals
      try subst n0
      go_enter Tryz.func21, Tryz.ntmps21
      go_wp2_with fail
      go_ret
      exact ⟨ret_b (by first | (simp [okE, *]; done) | (simp [okE, *]; omega) | (simp [okE, *]; intro h; exact absurd h n0)), H0.out⟩
  by_cases k3 : k = 3
  · subst k3
    by_cases n0 : n ≤ 255
    all_goals
      try subst n0
      go_enter Tryz.func21, Tryz.ntmps21
      go_wp2_with fail
      go_ret
      exact ⟨ret_b (by first | (simp [okE, *]; done) | (simp [okE, *]; omega) | (simp [okE, *]; intro h; exact absurd h n0)), H0.out⟩
  by_cases k4 : k = 4
  · subst k4
    by_cases n1 : n = 1
    · subst n1
      cases z
      all_goals
        go_enter Tryz.func21, Tryz.ntmps21
        go_wp2_with fail
        go_ret
        exact ⟨ret_b (by first | (simp [okE]; done) | (rw [Bool.eq_iff_iff]; simp [okE]; omega)), H0.out⟩
    · by_cases n0 : n = 0
      · subst n0
        cases z
        all_goals
          go_enter Tryz.func21, Tryz.ntmps21
          go_wp2_with fail
          go_ret
          exact ⟨ret_b (by first | (simp [okE]; done) | (rw [Bool.eq_iff_iff]; simp [okE]; omega)), H0.out⟩
      · have n2 : ¬ n ≤ 1 := by omega
        go_enter Tryz.func21, Tryz.ntmps21
        go_wp2_with fail
        go_ret
        exact ⟨ret_b (by simp [okE, n0, n1, n2]), H0.out⟩
  by_cases k5 : k = 5
  · subst k5
    by_cases n0 : n = 0
    · subst n0
      by_cases q1 : (1 : Int) ≤ s.size
      all_goals
        go_enter Tryz.func21, Tryz.ntmps21
        go_wp2_with fail
        go_ret
        exact ⟨ret_b (by first | (simp [okE]; done) | (rw [Bool.eq_iff_iff]; simp [okE]; omega)), H0.out⟩
    · go_enter Tryz.func21, Tryz.ntmps21
      go_wp2_with fail
      go_ret
      exact ⟨ret_b (by simp [okE, n0]), H0.out⟩
  · go_enter Tryz.func21, Tryz.ntmps21
    go_wp2_with fail
    go_ret
    exact ⟨ret_b (by simp [okE, k1, k2, k3, k4, k5, k6]), H0.out⟩
set_option maxHeartbeats 1000000 in
theorem valid_ref (k n : Int) (s : ByteArray) (hk : -9223372036854775808 ≤ k) (hk' : k ≤ 9223372036854775807) (hn : 0 ≤ n) (hn' : n ≤ 4294967295) (hs : (s.size : Int) ≤ 9223372036854775807) (w : World) : Calls Tryz.prog 28 #[.agg #[.int .i64 k, .int .u32 n, .string s]] w fun e w' => e = .returned (.bool (ok k n s.data.toList)) ∧ Held w w' := by
  have H0 := Lib.hid ((Held.refl w).alloc (.cells #[.int .i64 k, .int .u32 n, .string s] 66))
  have hl : s.data.toList.length = s.size := by simp
  obtain ⟨z, hz⟩ : ∃ z, decide (s.data.toList = []) = z := ⟨_, rfl⟩
  have hb := nil_beq hz
  have h0 : z = true → s.size = 0 := fun h => by rw [← hl]; subst h; rw [of_decide_eq_true hz]; rfl
  have h1 : z = false → 1 ≤ s.size := fun h => by
    rw [← hl]; subst h
    have := of_decide_eq_false hz
    cases hx : s.data.toList with
    | nil => exact absurd hx this
    | cons a t => simp
  rw [show ok k n s.data.toList = okE k n z s.size by unfold ok; rw [hz, hl]]
  clear hz hl
  by_cases k1 : k = 1
  · subst k1
    go_enter Tryz.func28, Tryz.ntmps28
    go_wp2_with fail
    go_ret
    exact ⟨ret_b (by first | (simp [okE]; done) | (rw [Bool.eq_iff_iff]; simp [okE]; omega)), H0.out⟩
  by_cases k6 : k = 6
  · subst k6
    go_enter Tryz.func28, Tryz.ntmps28
    go_wp2_with fail
    go_ret
    exact ⟨ret_b (by first | (simp [okE]; done) | (rw [Bool.eq_iff_iff]; simp [okE]; omega)), H0.out⟩
  by_cases k2 : k = 2
  · subst k2
    by_cases n0 : n = 0
    all_goals
      try subst n0
      go_enter Tryz.func28, Tryz.ntmps28
      go_wp2_with fail
      go_ret
      exact ⟨ret_b (by first | (simp [okE, *]; done) | (simp [okE, *]; omega) | (simp [okE, *]; intro h; exact absurd h n0)), H0.out⟩
  by_cases k3 : k = 3
  · subst k3
    by_cases n0 : n ≤ 255
    all_goals
      try subst n0
      go_enter Tryz.func28, Tryz.ntmps28
      go_wp2_with fail
      go_ret
      exact ⟨ret_b (by first | (simp [okE, *]; done) | (simp [okE, *]; omega) | (simp [okE, *]; intro h; exact absurd h n0)), H0.out⟩
  by_cases k4 : k = 4
  · subst k4
    by_cases n1 : n = 1
    · subst n1
      cases z
      all_goals
        go_enter Tryz.func28, Tryz.ntmps28
        go_wp2_with fail
        go_ret
        exact ⟨ret_b (by first | (simp [okE]; done) | (rw [Bool.eq_iff_iff]; simp [okE]; omega)), H0.out⟩
    · by_cases n0 : n = 0
      · subst n0
        cases z
        all_goals
          go_enter Tryz.func28, Tryz.ntmps28
          go_wp2_with fail
          go_ret
          exact ⟨ret_b (by first | (simp [okE]; done) | (rw [Bool.eq_iff_iff]; simp [okE]; omega)), H0.out⟩
      · have n2 : ¬ n ≤ 1 := by omega
        go_enter Tryz.func28, Tryz.ntmps28
        go_wp2_with fail
        go_ret
        exact ⟨ret_b (by simp [okE, n0, n1, n2]), H0.out⟩
  by_cases k5 : k = 5
  · subst k5
    by_cases n0 : n = 0
    · subst n0
      by_cases q1 : (1 : Int) ≤ s.size
      all_goals
        go_enter Tryz.func28, Tryz.ntmps28
        go_wp2_with fail
        go_ret
        exact ⟨ret_b (by first | (simp [okE]; done) | (rw [Bool.eq_iff_iff]; simp [okE]; omega)), H0.out⟩
    · go_enter Tryz.func28, Tryz.ntmps28
      go_wp2_with fail
      go_ret
      exact ⟨ret_b (by simp [okE, n0]), H0.out⟩
  · go_enter Tryz.func28, Tryz.ntmps28
    go_wp2_with fail
    go_ret
    exact ⟨ret_b (by simp [okE, k1, k2, k3, k4, k5, k6]), H0.out⟩
end Ev
end Go.Proofs.YtdacgdokbfcgdaaGreat

namespace Go.Proofs.YtdacgdokbfcgdaaGreat.Enc
open Go.RowKit
/-- An entry: its position, and its event's kind, number and data. -/
structure Ent where
  t : Nat
  k : Int
  n : Int
  d : ByteArray
def entC (x : Ent) : List Value := [.int .u64 (x.t : Int), .int .i64 x.k, .int .u32 x.n, .string x.d]
theorem entC_len (x : Ent) : (entC x).length = 4 := rfl
theorem entC_one (x : Ent) : ∀ u ∈ entC x, u.oneCell' = true := by
  intro u hu
  simp only [entC, List.mem_cons, List.not_mem_nil, or_false] at hu
  rcases hu with rfl | rfl | rfl | rfl <;> rfl
/-- The fields lie in their types. -/
structure EntOK (x : Ent) : Prop where
  t : x.t < 18446744073709551616
  k1 : -9223372036854775808 ≤ x.k
  k2 : x.k ≤ 9223372036854775807
  n1 : 0 ≤ x.n
  n2 : x.n ≤ 4294967295
  d : (x.d.size : Int) ≤ 9223372036854775807
def okX (x : Ent) : Bool := Ev.ok x.k x.n x.d.data.toList
def encE (k n : Int) (d : List UInt8) : List UInt8 :=
  if k = 1 ∨ k = 3 ∨ k = 6 then Uv.put k.toNat ++ Uv.put n.toNat else if k = 4 then Uv.put k.toNat ++ Uv.put n.toNat ++ (Uv.put d.length ++ d)
  else if k = 5 then Uv.put k.toNat ++ (Uv.put d.length ++ d) else Uv.put k.toNat
/-- y may not stand behind x. -/
def adj (x y : Ent) : Bool := decide (y.t < x.t) || (decide (y.t = x.t) && decide (x.k = 1))
def ordTo (L : List Ent) : Nat → Bool
  | 0 => true
  | k + 1 => ordTo L k && (match L[k]?, L[k + 1]? with | some x, some y => !adj x y | _, _ => true)
def ord (L : List Ent) : Bool := ordTo L (L.length - 1)
def lastT (f : Nat) (L : List Ent) : Nat := match L.getLast? with | some x => x.t | none => f
def encF (f : Nat) : List Ent → List UInt8
  | [] => []
  | x :: L => Uv.put (x.t - f) ++ encE x.k x.n x.d.data.toList ++ encF x.t L
def early (L : List Ent) (f : Nat) : Bool := match L[0]? with | some x => decide (x.t < f) | none => false
def encode (L : List Ent) (f : Nat) : List UInt8 × Int :=
  if 400 < L.length then ([], 1902) else if L.all okX = false then ([], 1900) else if (!ord L || early L f) = true then ([], 1901)
  else if 65536 < (Uv.put L.length ++ encF f L).length then ([], 1902) else (Uv.put L.length ++ encF f L, 0)
theorem lastT_snoc (f : Nat) (L : List Ent) (x : Ent) : lastT f (L ++ [x]) = x.t := by simp [lastT]
theorem encF_snoc (x : Ent) : ∀ (L : List Ent) (f : Nat), encF f (L ++ [x]) = encF f L ++ (Uv.put (x.t - lastT f L) ++ encE x.k x.n x.d.data.toList)
  | [], f => by simp [encF, lastT]
  | [y], f => by simp [encF, lastT]
  | y :: z :: L, f => by
    have ih := encF_snoc x (z :: L) y.t
    have e1 : lastT f (y :: z :: L) = lastT y.t (z :: L) := by simp [lastT, List.getLast?_cons]
    rw [e1]
    show Uv.put (y.t - f) ++ encE y.k y.n y.d.data.toList ++ encF y.t ((z :: L) ++ [x]) = _
    rw [ih]
    simp [encF]
theorem take_next {α : Type} (L : List α) (q : Nat) (h : q < L.length) : L.take (q + 1) = L.take q ++ [L[q]] := List.take_succ_eq_append_getElem h
theorem encF_next (L : List Ent) (f q : Nat) (h : q < L.length) : encF f (L.take (q + 1)) = encF f (L.take q) ++ (Uv.put (L[q].t - lastT f (L.take q)) ++ encE L[q].k L[q].n L[q].d.data.toList) := by
  rw [take_next L q h, encF_snoc]
theorem lastT_next (L : List Ent) (f q : Nat) (h : q < L.length) : lastT f (L.take (q + 1)) = L[q].t := by
  rw [take_next L q h, lastT_snoc]
theorem ordTo_mono {L : List Ent} {j k : Nat} (h : ordTo L k = true) (hj : j ≤ k) : ordTo L j = true := by
  induction k with
  | zero => obtain rfl : j = 0 := by omega
            rfl
  | succ k ih =>
    unfold ordTo at h
    rw [Bool.and_eq_true] at h
    by_cases e : j = k + 1
    · subst e; unfold ordTo; rw [h.1, h.2]; rfl
    · exact ih h.1 (by omega)
theorem ordTo_no {L : List Ent} {j k : Nat} (h : ordTo L j = false) (hj : j ≤ k) : ordTo L k = false := by
  cases hk : ordTo L k
  · rfl
  · rw [ordTo_mono hk hj] at h; cases h
theorem ordTo_next {L : List Ent} {k : Nat} (h : k + 1 < L.length) : ordTo L (k + 1) = (ordTo L k && !adj L[k] L[k + 1]) := by
  rw [ordTo, List.getElem?_eq_getElem (by omega), List.getElem?_eq_getElem h]
theorem last_le {L : List Ent} {f q : Nat} (ho : ord L = true) (he : early L f = false) (h : q < L.length) : lastT f (L.take q) ≤ L[q].t := by
  cases q with
  | zero =>
    unfold early at he
    rw [List.getElem?_eq_getElem h] at he
    simp [lastT] at he ⊢
    exact he
  | succ q =>
    rw [lastT_next L f q (by omega)]
    have := ordTo_mono ho (j := q + 1) (by omega)
    rw [ordTo_next (by omega), Bool.and_eq_true] at this
    have := this.2
    simp only [adj, Bool.not_eq_true', Bool.or_eq_false_iff, decide_eq_false_iff_not] at this
    omega
theorem ok_bd {k n : Int} {d : List UInt8} (h : Ev.ok k n d = true) : 1 ≤ k ∧ k ≤ 6 ∧ d.length ≤ 128 := by
  unfold Ev.ok Ev.okE at h
  by_cases hd : d = []
  · subst hd
    simp at h
    refine ⟨?_, ?_, by simp⟩ <;> (repeat' split at h) <;> first | omega | (simp at h)
  · simp [hd] at h
    have : d.length ≤ 128 := by (repeat' split at h) <;> first | omega | (simp at h <;> omega)
    refine ⟨?_, ?_, this⟩ <;> (repeat' split at h) <;> first | omega | (simp at h)
theorem encE_len {k n : Int} {d : List UInt8} (hk : 1 ≤ k) (hk6 : k ≤ 6) (hn : 0 ≤ n) (hn2 : n ≤ 4294967295) (hd : d.length ≤ 128) : (encE k n d).length ≤ 158 := by
  have h1 := Uv.put_len k.toNat (by omega)
  have h2 := Uv.put_len n.toNat (by omega)
  have h3 := Uv.put_len d.length (by omega)
  unfold encE
  split
  · rw [List.length_append]; omega
  · split
    · rw [List.length_append, List.length_append, List.length_append]; omega
    · split
      · rw [List.length_append, List.length_append]; omega
      · omega
theorem encF_len {L : List Ent} (hx : ∀ x ∈ L, EntOK x ∧ okX x = true) : ∀ f, (encF f L).length ≤ 168 * L.length := by
  induction L with
  | nil => intro f; simp [encF]
  | cons x L ih =>
    intro f
    have h1 := hx x (by simp)
    have hb := ok_bd h1.2
    have h2 := encE_len hb.1 hb.2.1 h1.1.n1 h1.1.n2 hb.2.2
    have h3 := Uv.put_len (x.t - f) (by have := h1.1.t; omega)
    have h4 := ih (fun y hy => hx y (by simp [hy])) x.t
    unfold encF
    rw [List.length_append, List.length_append, List.length_cons]
    omega
end Go.Proofs.YtdacgdokbfcgdaaGreat.Enc

namespace Go.Proofs.YtdacgdokbfcgdaaGreat
open Go.RowKit Go.BigFrame Go.Sort Go.Lib
namespace Mem
theorem joinF {W w w' : World} {H H' : List Ck} (h : Mem W w H) (k : Mem w w' H') : Mem W w' (H' ++ H) := by
  have h1 := h.keep k.held
  refine ⟨h1.held, fun c hc => ?_, ?_⟩
  · rcases List.mem_append.1 hc with hc | hc
    · exact ⟨(k.ok c hc).1, fun b hb => Nat.le_trans h.le ((k.ok c hc).2 b hb)⟩
    · exact h1.ok c hc
  · refine List.pairwise_append.2 ⟨k.sep, h1.sep, fun d hd c hc b hb hb' => ?_⟩
    have l1 := c.lt (h.ok c hc).1 b hb'
    have l2 := (k.ok d hd).2 b hb
    omega
theorem rebaseR {W w : World} {H : List Ck} (h : Mem W w H) (i : Nat) {α : Type} {e : TypeId} {s : Nat} {f : α → List Value} {base : Nat} {v : Value} {L : List α} (hi : H[i]? = some (.row e s f base v L)) (hb : W.heap.size ≤ base) : Mem W w (H.set i (.row e s f W.heap.size v L)) := by
  refine h.upd hi _ (Below.refl 0 w) (fun b _ _ => rfl) (Own.mono (h.row i hi) hb) (fun b hb => .inl hb)
end Mem
namespace Ma
open Enc (Ent entC EntOK okX ord ordTo adj)
theorem mc_len (C : List Int) (mv : Value) (d : Dv) (X : List Value) (hC : C.length = 25) : (mcL C mv d X).length = 49 + X.length := by simp [mcL, dvC, hC]; omega
theorem patch_mac {C : List Int} {mv : Value} {d : Dv} {X : List Value} (hC : C.length = 25) {C' : List Int} (hC' : C'.length = 25) (mv' : Value) (d' : Dv) : Big.patch (mcA C mv d X) 0 (mcA C' mv' d' []) = mcA C' mv' d' X := by
  unfold Big.patch
  apply Array.ext'
  rw [mc_size hC']
  have e : ∀ (C : List Int) (mv : Value) (d : Dv) (X : List Value), mcL C mv d X = mcL C mv d [] ++ X := by intro C mv d X; simp [mcL]
  have l : (mcL C mv d []).length = 49 := mc_len C mv d [] hC
  simp only [mcA, List.take_zero, List.nil_append, List.length_nil, Nat.add_zero, Nat.zero_add]
  rw [e C mv d X, e C' mv' d' X, List.drop_append, List.drop_of_length_le (by rw [l]; exact Nat.le_refl _), l, Nat.sub_self, List.drop_zero, List.nil_append]
theorem set_x {C : List Int} {mv : Value} {d : Dv} {X : List Value} (hC : C.length = 25) (j : Nat) (v : Value) : (mcA C mv d X).setIfInBounds (49 + j) v = mcA C mv d (X.set j v) := by
  apply Array.ext'
  have e : ∀ (X : List Value), mcL C mv d X = mcL C mv d [] ++ X := by intro X; simp [mcL]
  have l : (mcL C mv d []).length = 49 := mc_len C mv d [] hC
  simp only [mcA, Array.toList_setIfInBounds]
  rw [e X, e (X.set j v), List.set_append_right _ _ (by rw [l]; omega), l]
  congr 2
  omega
theorem uRec : ∃ fs, Tryz.prog.underlying 61 = some (.struct fs) := ⟨_, Tryz.underlying61⟩
theorem sRec : (Tryz.prog.info? 61).map (·.size) = some 52 := by kernel_rfl
theorem load_rec {w : World} {b : Nat} {cs : Array Value} {t : TypeId} (hs : cs.size = 52) (h : w.heap[b]? = some (.cells cs t (0, 0))) : (loadVar 61 ⟨b, 0, none⟩).run Tryz.prog w = .ok (.agg cs) w := by
  obtain ⟨fs, hu⟩ := uRec
  have := Big.run_load (P := Tryz.prog) w b 0 52 t 61 cs (0, 0) _ h hu rfl sRec (by omega) cs.toList (by rw [List.drop_zero, List.take_of_length_le (by rw [Array.length_toList]; omega)])
  simpa using this
def evtC (x : Evt) : List Value := [.int .i64 x.k, .int .u32 x.n, .string x.s]
theorem evtC_len (x : Evt) : (evtC x).length = 3 := rfl
theorem evtC_one (x : Evt) : ∀ u ∈ evtC x, u.oneCell' = true := by
  intro u hu
  simp only [evtC, List.mem_cons, List.not_mem_nil, or_false] at hu
  rcases hu with rfl | rfl | rfl <;> rfl
theorem info_evt : (Tryz.prog.info? 66).map (fun i => (i.zero, i.size, i.bytes)) = some (some (.agg #[.int .i64 0, .int .u32 0, .string ⟨#[]⟩]), 3, 32) := by kernel_rfl
theorem info_ent : (Tryz.prog.info? 68).map (fun i => (i.zero, i.size, i.bytes)) = some (some (.agg #[.int .u64 0, .int .i64 0, .int .u32 0, .string ⟨#[]⟩]), 4, 40) := by kernel_rfl
theorem info_out : (Tryz.prog.info? 215).map (fun i => (i.zero, i.size, i.bytes)) = some (some (.agg #[.int .i64 0, .int .u64 0, .int .u32 0, .string ⟨#[]⟩]), 4, 40) := by kernel_rfl
theorem oC_one (x : Ou) : ∀ u ∈ oC x, u.oneCell' = true := by
  intro u hu
  simp only [oC, List.mem_cons, List.not_mem_nil, or_false] at hu
  rcases hu with rfl | rfl | rfl | rfl <;> rfl
abbrev memN (B g n : Nat) (M : List Int) : Ck := .row 40 1 uC B (.slice (some ⟨g, 0, none⟩) n n) M
abbrev logR (B : Nat) (v : Value) (LL : List Ent) : Ck := .row 68 4 entC B v LL
abbrev queR (B : Nat) (v : Value) (QL : List Evt) : Ck := .row 66 3 evtC B v QL
abbrev memS (g n : Nat) : Value := .slice (some ⟨g, 0, none⟩) n n
abbrev recV (C : List Int) (g n : Nat) (d : Dv) (clk : Int) (lv qv : Value) : Value := .agg (mcA C (memS g n) d [.int .u32 clk, lv, qv])
/-- A log that goes from c0 to c. -/
structure LogI (LL : List Ent) (c0 c : Nat) : Prop where
  ok : ∀ x ∈ LL, EntOK x ∧ okX x = true
  lo : ∀ x ∈ LL, c0 ≤ x.t ∧ x.t ≤ c
  clk : ∀ x ∈ LL, x.k = 1 → x.t < c
  ord : ord LL = true
theorem LogI.nil (c0 c : Nat) : LogI [] c0 c := ⟨fun x h => by simp at h, fun x h => by simp at h, fun x h => by simp at h, rfl⟩
theorem LogI.mono {LL : List Ent} {c0 c c' : Nat} (h : LogI LL c0 c) (hc : c ≤ c') : LogI LL c0 c' :=
  ⟨h.ok, fun x hx => ⟨(h.lo x hx).1, Nat.le_trans (h.lo x hx).2 hc⟩, fun x hx hk => Nat.lt_of_lt_of_le (h.clk x hx hk) hc, h.ord⟩
theorem ordTo_app (L : List Ent) (x : Ent) : ∀ k, k < L.length → ordTo (L ++ [x]) k = ordTo L k
  | 0, _ => rfl
  | k + 1, h => by
    rw [Enc.ordTo_next (by rw [List.length_append]; omega), Enc.ordTo_next h, ordTo_app L x k (by omega)]
    rw [List.getElem_append_left (by omega), List.getElem_append_left h]
theorem ord_snoc {L : List Ent} {x : Ent} (h : ord L = true) (hl : ∀ y ∈ L, adj y x = false) : ord (L ++ [x]) = true := by
  unfold Enc.ord at *
  rw [List.length_append, List.length_singleton, Nat.add_sub_cancel]
  cases hL : L.length with
  | zero => rfl
  | succ n =>
    rw [Enc.ordTo_next (by rw [List.length_append]; simp; omega), ordTo_app L x n (by omega)]
    rw [hL, Nat.add_sub_cancel] at h
    rw [h, Bool.true_and]
    rw [List.getElem_append_left (by omega), List.getElem_append_right (by omega)]
    simp only [hL, Nat.sub_self, List.getElem_cons_zero]
    rw [hl _ (List.getElem_mem _)]
    rfl
theorem LogI.snoc {LL : List Ent} {c0 c : Nat} (h : LogI LL c0 c) (hc : c0 ≤ c) {x : Ent} (ht : x.t = c) (h1 : EntOK x) (h2 : okX x = true) (c' : Nat) (hc' : c ≤ c') (hk : x.k = 1 → c < c') : LogI (LL ++ [x]) c0 c' := by
  refine ⟨fun y hy => ?_, fun y hy => ?_, fun y hy hy1 => ?_, ord_snoc h.ord fun y hy => ?_⟩
  · rcases List.mem_append.1 hy with hy | hy
    · exact h.ok y hy
    · rw [List.mem_singleton] at hy; subst hy; exact ⟨h1, h2⟩
  · rcases List.mem_append.1 hy with hy | hy
    · exact (h.mono hc').lo y hy
    · rw [List.mem_singleton] at hy; subst hy; exact ⟨by omega, by omega⟩
  · rcases List.mem_append.1 hy with hy | hy
    · exact (h.mono hc').clk y hy hy1
    · rw [List.mem_singleton] at hy; subst hy; have := hk hy1; omega
  · have l := (h.lo y hy).2
    have k := h.clk y hy
    unfold Enc.adj
    rw [Bool.or_eq_false_iff, Bool.and_eq_false_iff, decide_eq_false_iff_not, decide_eq_false_iff_not, decide_eq_false_iff_not]
    refine ⟨by omega, ?_⟩
    by_cases hk1 : y.k = 1
    · exact .inl (by have := k hk1; omega)
    · exact .inr hk1
/-- What has been logged, what may come without a step. -/
def pot (LL : List Ent) (ta : Bool) (QL : List Evt) : Nat := LL.length + (if ta = true then 1 else 0) + QL.length
end Ma
end Go.Proofs.YtdacgdokbfcgdaaGreat

namespace Go.Proofs.YtdacgdokbfcgdaaGreat
open Go.RowKit Go.BigFrame Go.Sort Go.Lib
namespace Ma
open Enc (Ent entC EntOK okX ord ordTo adj entC_len entC_one)
abbrev z52 : Array Value := #[.int .u32 0, .int .u32 0, .int .u32 0, .int .u32 0, .int .u32 0, .int .u32 0, .int .u32 0, .int .u32 0, .int .u32 0, .int .u32 0, .int .u32 0, .int .u32 0, .int .u32 0, .int .u32 0, .int .u32 0, .int .u32 0, .int .u32 0, .int .u32 0, .int .u32 0, .int .u32 0, .int .u32 0, .int .u32 0, .int .u32 0, .int .u32 0, .int .u32 0, .slice none 0 0, .string ⟨#[]⟩, .bool false, .int .u32 0, .bool false, .int .u32 0, .int .u32 0, .int .u32 0, .int .i64 0, .int .i64 0, .int .u32 0, .int .u32 0, .string ⟨#[]⟩, .int .u32 0, .int .u32 0, .bool false, .int .u32 0, .bool false, .int .u32 0, .int .u32 0, .int .u32 0, .int .u64 0, .bool false, .bool false, .int .u32 0, .slice none 0 0, .slice none 0 0]
def OwrTo (C : List Int) (n : Nat) (M : List Int) (d : Dv) (clk : Int) (LL : List Ent) (QL : List Evt) (w : World) (e : Ending) (w' : World) : Prop :=
  ∃ (g : Nat) (A1 A2 : Option Addr) (c1 c2 : Nat), e = .returned (recV C g n d clk (.slice A1 LL.length c1) (.slice A2 QL.length c2)) ∧ Mem w w' [memN w.heap.size g n M, logR w.heap.size (.slice A1 LL.length c1) LL, queR w.heap.size (.slice A2 QL.length c2) QL]
set_option maxHeartbeats 8000000 in
theorem own19_any (C : List Int) (A : Option Addr) (n cap : Nat) (d : Dv) (clk : Int) (A1 A2 : Option Addr) (n1 c1 n2 c2 : Nat) (M : List Int) (LL : List Ent) (QL : List Evt) (hC : C.length = 25) (hn : n ≤ 1024) (w : World) (h : Sl 1 uC w A n M) (h1 : Sl 4 entC w A1 n1 LL) (h2 : Sl 3 evtC w A2 n2 QL) (hn1 : n1 ≤ 1000000) (hn2 : n2 ≤ 1000000) :
    Calls Tryz.prog 98 #[.agg (mcA C (.slice A n cap) d [.int .u32 clk, .slice A1 n1 c1, .slice A2 n2 c2])] w (OwrTo C n M d clk LL QL w) := by
  have HCL := Lib.hid hC
  have HSZ : Is (mcA C (.slice A n cap) d [.int .u32 clk, .slice A1 n1 c1, .slice A2 n2 c2]).size (49 + ([.int .u32 clk, .slice A1 n1 c1, .slice A2 n2 c2] : List Value).length) := ⟨mc_size hC⟩
  have HO := Lib.hid fun (w' : World) (h' : Held w w') => own7_any C A n cap d M hC hn w' (h.held h')
  unfold OwnTo at HO
  have H1 := Lib.hid h1
  have H2 := Lib.hid h2
  have HN := Lib.hid (And.intro hn1 hn2)
  have M0 := Lib.hid (((Mem.start w).allocF (b := w.heap.size) rfl (mcA C (.slice A n cap) d [.int .u32 clk, .slice A1 n1 c1, .slice A2 n2 c2]) 61).allocF (b := w.heap.size + 1) (by simp) z52 61)
  have e1 := h1.1
  have e2 := h2.1
  clear hC h h1 h2 hn
  unfold OwrTo
  rw [e1, e2]
  clear e1 e2
  go_enter Tryz.func98, Tryz.ntmps98
  go_wp2_with (show wpList _ _ _ ((⟨_, Op.load 57 _, _, _, _, _⟩ : Oper) :: _) _ _; refine Mem.go_loadPart 57 rfl rfl 0 49 rfl 1 M0.out rfl uMac sMac (by rw [HSZ.out]; exact Nat.le_trans (by decide : 0 + 49 ≤ 49) (Nat.le_add_right _ _)) (take_all HCL.out) ?_)
  refine (HO.out _ M0.out.held).mono ?_
  rintro e w3 ⟨g, rfl, h3, hown⟩
  have M3 := Lib.hid (M0.out.ownF h3 hown)
  clear h3 hown HO
  go_upto_region 2 with (show wpList _ _ _ ((⟨_, Op.store 57 _ _, _, _, _, _⟩ : Oper) :: _) _ _; refine Mem.go_storePart 57 rfl rfl 0 (news := mcA C (.slice (some ⟨g, 0, none⟩) n n) d []) rfl rfl 2 M3.out rfl (by rw [mc_size HCL.out]; exact sMac) (by rw [HSZ.out, mc_size HCL.out]; exact (by decide : 0 + 49 ≤ 49 + 3)) (mc_one _ rfl _ (by intro v hv; cases hv)) ?_; intro w4 MM'; rw [patch_mac HCL.out HCL.out] at MM'; (try simp only [List.set_cons_zero, List.set_cons_succ] at MM'); have M4 := Lib.hid MM'; clear MM')
  have x50 := M4.out.cell 2 rfl 50 (mc_x (X := [.int .u32 clk, .slice A1 n1 c1, .slice A2 n2 c2]) HCL.out (j := 1) rfl)
  have f50 := M4.out.free 2 rfl 50
  have l50 := M4.out.lt 2 rfl
  have M5 := Lib.hid (M4.out.emptyRow (b := w4.heap.size) rfl (e := 68) (s := 4) (f := entC)).toFront
  go_upto_region 3 with (at_builtin; refine Mem.wp_cat M5.out 0 rfl rfl _ _ _ rfl _ 40 Tryz.underlying25 info_ent rfl (by decide) entC_len entC_one LL A1 n1 c1 rfl rfl (H1.out.held (M4.out.held.alloc _)) rfl (by have := HN.out.1; omega) (by decide) ?_; intro A8 cap8 w8 MM' hA8; simp only [Nat.zero_add, List.nil_append] at MM' ⊢; (try simp only [List.set_cons_zero, List.set_cons_succ] at MM'); have M6 := Lib.hid MM'; have y50 := MM'.cell 3 rfl 50 (mc_x (X := [.int .u32 clk, .slice A1 n1 c1, .slice A2 n2 c2]) HCL.out (j := 1) rfl); have g50 := MM'.free 3 rfl 50; clear MM' hA8 x50 f50 l50)
  have MM' := M6.out.put 3 rfl 50 (.slice A8 n1 cap8)
  rw [show 50 = 49 + 1 from rfl, set_x HCL.out] at MM'
  (try simp only [List.set_cons_zero, List.set_cons_succ] at MM')
  have M7 := Lib.hid MM'
  clear MM' y50 g50
  obtain ⟨w8', hw⟩ : ∃ w' : World, (World.setCell w8 ⟨w.heap.size, 50, none⟩ (.slice A8 n1 cap8)) = w' := ⟨_, rfl⟩
  rw [hw] at M7 ⊢
  clear hw
  have x51 := M7.out.cell 3 rfl 51 (mc_x (X := [.int .u32 clk, .slice A8 n1 cap8, .slice A2 n2 c2]) HCL.out (j := 2) rfl)
  have f51 := M7.out.free 3 rfl 51
  have l51 := M7.out.lt 3 rfl
  have M8 := Lib.hid (M7.out.emptyRow (b := w8'.heap.size) rfl (e := 66) (s := 3) (f := evtC)).toFront
  go_upto_region 4 with (at_builtin; refine Mem.wp_cat M8.out 0 rfl rfl _ _ _ rfl _ 32 Tryz.underlying59 info_evt rfl (by decide) evtC_len evtC_one QL A2 n2 c2 rfl rfl (H2.out.held (M7.out.held.alloc _)) rfl (by have := HN.out.2; omega) (by decide) ?_; intro A9 cap9 w9 MM' hA9; simp only [Nat.zero_add, List.nil_append] at MM' ⊢; (try simp only [List.set_cons_zero, List.set_cons_succ] at MM'); have M9 := Lib.hid MM'; have y51 := MM'.cell 4 rfl 51 (mc_x (X := [.int .u32 clk, .slice A8 n1 cap8, .slice A2 n2 c2]) HCL.out (j := 2) rfl); have g51 := MM'.free 4 rfl 51; clear MM' hA9 x51 f51 l51)
  have MM' := M9.out.put 4 rfl 51 (.slice A9 n2 cap9)
  rw [show 51 = 49 + 2 from rfl, set_x HCL.out] at MM'
  (try simp only [List.set_cons_zero, List.set_cons_succ] at MM')
  have M10 := Lib.hid MM'
  clear MM' y51 g51
  obtain ⟨w9', hw⟩ : ∃ w' : World, (World.setCell w9 ⟨w.heap.size, 51, none⟩ (.slice A9 n2 cap9)) = w' := ⟨_, rfl⟩
  rw [hw] at M10 ⊢
  clear hw
  have HX1 : Hid (∀ v ∈ ([.int .u32 clk, .slice A8 n1 cap8, .slice A9 n2 cap9] : List Value), v.oneCell' = true) := Lib.hid (by intro v hv; simp only [List.mem_cons, List.not_mem_nil, or_false] at hv; rcases hv with rfl | rfl | rfl <;> rfl)
  go_wp2_with (first | (show wpList _ _ _ ((⟨_, Op.load 61 _, _, _, _, _⟩ : Oper) :: _) _ _; refine Mem.go_loadAll 61 rfl rfl rfl 4 M10.out rfl uRec (by rw [mc_size HCL.out]; exact sRec) ?_) | (show wpList _ _ _ ((⟨_, Op.store 61 _ _, _, _, _, _⟩ : Oper) :: _) _ _; refine Mem.go_storeAll 61 rfl rfl rfl rfl 3 M10.out rfl (by rw [mc_size HCL.out]; exact sRec) (by rw [mc_size HCL.out]; rfl) (mc_one _ rfl _ HX1.out) ?_; intro w11 MM'; (try simp only [List.set_cons_zero, List.set_cons_succ] at MM'); have M11 := Lib.hid MM'; clear MM'))
  try simp only [Act.put, Tl.p2, Tl.p3, Tl.p4]
  refine bodyPost_ret (Bx.res_c Tryz.results98 rfl (load_rec (mc_size HCL.out) (M11.out.blk 3 rfl))) rfl ?_
  exact ⟨g, _, _, _, _, rfl, M11.out.pick [2, 1, 0] (by decide) rfl⟩
end Ma
end Go.Proofs.YtdacgdokbfcgdaaGreat
