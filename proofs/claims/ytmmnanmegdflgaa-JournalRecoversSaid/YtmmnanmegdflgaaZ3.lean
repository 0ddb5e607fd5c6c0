/-
  Contracts: the hash and the varints of chapter 1 (package bits and the reference) compute the plain functions of Hs and Uv.
  Contracts: sealed segments: the readers, Seal and Open of eventlog and of its reference compute the plain functions of Lg.
  Contracts: the journal's reader of numbers and bytes (chapter 42).
-/
import Derived.Test.YtmmnanmegdflgaaProg
import Derived.Test.YtmmnanmegdflgaaZ2
import Derived.WalkKit
import Derived.Lib.Hide
import Derived.WalkSpells
import Derived.WalkLawsBesides
import Derived.BigQuiet
import Derived.Deep.QuietTactic
import Derived.Test.YtmmnanmegdflgaaZ1
import Derived.Lib.QuietBelow
set_option linter.unusedVariables false
set_option maxRecDepth 100000
namespace Go.Proofs.Ytmmnanmegdflgaa
open Go.RowKit
namespace Strs
theorem ret_u64 {a b : Int} (h : a = b) : Ending.returned (.int .u64 a) = .returned (.int .u64 b) := by rw [h]
theorem int_u64 {a b : Int} (h : a = b) : Value.int .u64 a = .int .u64 b := by rw [h]
theorem take_snoc (s : ByteArray) (k : Nat) (h : k < s.size) : s.data.toList.take (k + 1) = s.data.toList.take k ++ [s[k]] := by
  rw [List.take_succ_eq_append_getElem (by simpa using h)]; rfl
theorem take_all (s : ByteArray) : s.data.toList.take s.size = s.data.toList := List.take_of_length_le (by simp)
theorem step_eq (h : Nat) (c : UInt8) (hh : h < 18446744073709551616) : IntKind.u64.wrap (bits .xor .u64 (h : Int) (c.toNat : Int) * 1099511628211) = (Hs.step h c : Int) := by
  rw [u64_xor_nat h _ hh (by have := c.toNat_lt; omega), IntKind.wrap_u64]
  unfold Hs.step; simp
theorem hash_any (h : Nat) (s : ByteArray) (hh : (h : Int) ≤ 18446744073709551615) (hs : s.size ≤ 9223372036854775807) (w : World) :
    Calls Try.prog 97 #[.int .u64 h, .string s] w fun e w' => e = .returned (.int .u64 (Hs.hash h s.data.toList)) ∧ w = w' := by
  have TA := Lib.hid (take_all s)
  go_enter Try.func97, Try.ntmps97
  go_wp2
  go_loop [0, 8] (fun x i => ∃ k : Nat, k ≤ s.size ∧ i = .int .i64 k ∧ x = .int .u64 (Hs.hash h (s.data.toList.take k))) (fun _ i => s.size - (intOf i).toNat)
  case atStart => exact ⟨0, Nat.zero_le _, rfl, rfl⟩
  case round =>
    obtain ⟨k, hk, rfl, rfl⟩ := hrel
    have hl := Hs.hash_lt h (s.data.toList.take k) (by omega)
    by_cases hlt : k < s.size
    · have hb : (s[k].toNat : Int) ≤ 255 := by have := s[k].toNat_lt; omega
      have HS := Lib.hid (Hs.hash_snoc h (s.data.toList.take k) s[k])
      have HT := Lib.hid (take_snoc s k hlt)
      have HE := Lib.hid (step_eq _ s[k] hl)
      clear hl
      go_wp2
      go_round
      case rel => exact ⟨k + 1, by omega, by go_num, int_u64 (by rw [HT.out, HS.out, ← HE.out])⟩
      case measure => simp [intOf]; omega
    · obtain rfl : k = s.size := by omega
      go_wp2
      go_ret
      exact ⟨ret_u64 (by rw [TA.out]), rfl⟩
theorem hash_ref_any (h : Nat) (s : ByteArray) (hh : (h : Int) ≤ 18446744073709551615) (hs : s.size ≤ 9223372036854775807) (w : World) :
    Calls Try.prog 78 #[.int .u64 h, .string s] w fun e w' => e = .returned (.int .u64 (Hs.hash h s.data.toList)) ∧ w = w' := by
  have TA := Lib.hid (take_all s)
  go_enter Try.func78, Try.ntmps78
  go_wp2
  go_loop [0, 5] (fun x i => ∃ k : Nat, k ≤ s.size ∧ i = .int .i64 k ∧ x = .int .u64 (Hs.hash h (s.data.toList.take k))) (fun _ i => s.size - (intOf i).toNat)
  case atStart => exact ⟨0, Nat.zero_le _, rfl, rfl⟩
  case round =>
    obtain ⟨k, hk, rfl, rfl⟩ := hrel
    have hl := Hs.hash_lt h (s.data.toList.take k) (by omega)
    by_cases hlt : k < s.size
    · have hb : (s[k].toNat : Int) ≤ 255 := by have := s[k].toNat_lt; omega
      have HS := Lib.hid (Hs.hash_snoc h (s.data.toList.take k) s[k])
      have HT := Lib.hid (take_snoc s k hlt)
      have HE := Lib.hid (step_eq _ s[k] hl)
      clear hl
      go_wp2
      go_round
      case rel => exact ⟨k + 1, by omega, by go_num, int_u64 (by rw [HT.out, HS.out, ← HE.out])⟩
      case measure => simp [intOf]; omega
    · obtain rfl : k = s.size := by omega
      go_wp2
      go_ret
      exact ⟨ret_u64 (by rw [TA.out]), rfl⟩

/-- The bytes of the encoding that lie before x when the loop has come so far. -/
theorem str_eq {a b : List UInt8} (h : a = b) : Ending.returned (.string ⟨a.toArray⟩) = .returned (.string ⟨b.toArray⟩) := by rw [h]
theorem Tryinfo_u8 : (Try.prog.info? 5).map (fun i => (i.zero, i.size, i.bytes)) = some (some (.int .u8 0), 1, 1) := by kernel_rfl
/-- Bytes as the cells of a slice. -/
def by8 (l : List UInt8) : List Value := l.map fun c => Value.int .u8 c.toNat
theorem by8_append (a b : List UInt8) : by8 (a ++ b) = by8 a ++ by8 b := List.map_append
theorem by8_one (l : List UInt8) : ∀ u ∈ by8 l, u.oneCell' = true := by
  intro u hu; obtain ⟨c, _, rfl⟩ := List.mem_map.1 hu; rfl
theorem by8_at {l : List UInt8} {j : Nat} {u : Value} (h : (by8 l)[j]? = some u) : ∃ h : j < l.length, u = .int .u8 l[j].toNat := by
  unfold by8 at h
  rw [List.getElem?_map] at h
  cases e : l[j]? with
  | none => simp [e] at h
  | some c =>
    obtain ⟨hj, rfl⟩ := List.getElem?_eq_some_iff.1 e
    simp [e] at h
    exact ⟨hj, h.symm⟩
/-- Append to bytes that the call itself made. -/
theorem app_u8 (w : World) {ops : Array Oper} {rest : List Oper} {o : Oper} {a : Act} {Q : Exit → Act → World → Prop} (hgd : o.guard = none) (s x : Operand)
    (ho : o.op = .call { callee := .builtin .append, args := #[s, x], argTypes := #[52, 52] }) (base : Nat) (v : Value) (l news : List UInt8) (ad : Addr) (m c : Nat)
    (hs : a.eval s = v) (hown : w.ownsRow base 5 1 v l.length (by8 l)) (hx : a.eval x = .slice (some ad) m c) (hm : news.length = m)
    (hnews : ∀ j (h : j < news.length), w.cell? (ad.add j) = some (.int .u8 news[j].toNat)) (hb : l.length + m ≤ 140737488355328) (hbase : base ≤ w.heap.size)
    (h : ∀ v' w', w'.ownsRow base 5 1 v' (l ++ news).length (by8 (l ++ news)) → w.grownBy w' v.ownBlock → (v' = .slice none 0 0 ↔ v = .slice none 0 0 ∧ m = 0) → wpList Try.prog ops Q rest (a.put o.dst v') w') :
    wpList Try.prog ops Q (o :: rest) a w := by
  obtain ⟨i0, hi, hz0, hz1, hz2⟩ := info_parts Tryinfo_u8
  refine wpList_append_own w hgd s x 52 ho base 5 i0 (.int .u8 0) 1 1 Try.underlying52 hi hz0 hz1 hz2 rfl (by decide) v l.length (by8 l) hs hown ad m c (by8 news) hx (by simp [by8, hm]) ?_ (by8_one news) (by unfold maxLen; omega) (by omega) hbase ?_
  · intro j u hj
    obtain ⟨hk, rfl⟩ := by8_at hj
    exact hnews j hk
  · intro v' w' h1 h2 h3
    refine h v' w' ?_ h2 h3
    rw [by8_append, List.length_append, hm]; exact h1
/-- A row of one byte that was just made. -/
theorem one_cell (w : World) (n : Int) (c : UInt8) (h : n = (c.toNat : Int)) (t : TypeId) : ∀ j (h : j < [c].length), (w.alloc (.cells #[.int .u8 n] t)).cell? ((⟨w.heap.size, 0, none⟩ : Addr).add j) = some (.int .u8 [c][j].toNat) := by
  intro j hj
  simp at hj
  subst hj h
  simp [Addr.add]

theorem by8_get (l : List UInt8) (j : Nat) (hj : j < l.length) : (by8 l)[j]? = some (.int .u8 l[j].toNat) := by
  unfold by8; rw [List.getElem?_map, List.getElem?_eq_getElem hj]; rfl
theorem addr_add (g j : Nat) : (⟨g, 0, none⟩ : Addr).add j = ⟨g, j, none⟩ := by
  unfold Addr.add; split
  · rename_i h; subst h; rfl
  · simp
/-- Bytes that the call owns, as a string. -/
theorem conv_own {w : World} {base : Nat} {v : Value} {l : List UInt8} (h : w.ownsRow base 5 1 v l.length (by8 l)) :
    (convert 52 9 v).run Try.prog w = .ok (.string ⟨l.toArray⟩) w := by
  have h' := h
  obtain ⟨_, h⟩ := h
  rcases h with ⟨rfl, h0⟩ | ⟨g, cap, cur, rfl, _⟩
  · have hl : l = [] := List.eq_nil_of_length_eq_zero h0
    subst hl
    have := run_convert_bytes_back (P := Try.prog) w 52 9 5 default 0 [] Try.underlying52 Try.underlying5 Try.underlying9 (fun j hj => absurd hj (by simp))
    rw [run_convert_bytes_string w _ _ _ none 0 0 Try.underlying52 Try.underlying5 Try.underlying9]
    rfl
  · exact run_convert_bytes_back (P := Try.prog) w 52 9 5 _ cap l Try.underlying52 Try.underlying5 Try.underlying9 (fun j hj => by
      have := h'.cellAt j (by omega)
      rw [by8_get l j hj] at this
      rw [addr_add]; exact this)
theorem or128 : ∀ c : Nat, c < 256 → c ||| 128 = c % 128 + 128 := by decide +kernel
theorem put_byte (z : Nat) : bits .or .u8 ((z : Int) % 256) 128 = ((UInt8.ofNat (z % 128 + 128)).toNat : Int) := by
  rw [show ((z : Int) % 256) = ((z % 256 : Nat) : Int) by simp, show (128 : Int) = ((128 : Nat) : Int) from rfl, u8_or_nat _ _ (Nat.mod_lt _ (by omega)) (by omega), or128 _ (Nat.mod_lt _ (by omega)), Uv.ofNat_toNat (by omega)]
  congr 1; omega
theorem last_byte (z : Nat) (h : z < 128) : (z : Int) = ((UInt8.ofNat z).toNat : Int) := by rw [Uv.ofNat_toNat (by omega)]
theorem below_app {W w w1 : World} {b : Nat} {v : Value} {e : TypeId} {size n : Nat} {xs : List Value} {o : Obj} (hb : Below b W w) (hbs : b ≤ w.heap.size) (hown : w.ownsRow b e size v n xs) (hg : (w.alloc o).grownBy w1 v.ownBlock) : Below b W w1 := by
  refine (hb.alloc hbs o).grown hg (by simp; omega) ?_
  intro k hk
  obtain ⟨_, h⟩ := hown
  rcases h with ⟨rfl, _⟩ | ⟨g, cap, cur, rfl, hg', _⟩
  · simp [Value.ownBlock] at hk
  · simp [Value.ownBlock] at hk; omega

theorem put_any (x : Nat) (hx : (x : Int) ≤ 18446744073709551615) (w : World) :
    Calls Try.prog 66 #[.int .u64 x] w fun e w' => e = .returned (.string ⟨(Uv.put x).toArray⟩) ∧ Below w.heap.size w w' := by
  go_enter Try.func66, Try.ntmps66
  go_wp2
  go_loopw [0, 3] (fun y v wr => ∃ (z : Nat) (l : List UInt8), y = .int .u64 z ∧ (z : Int) ≤ 18446744073709551615 ∧ l ++ Uv.put z = Uv.put x ∧ wr.ownsRow w.heap.size 5 1 v l.length (by8 l) ∧ Below w.heap.size w wr)
    (fun y _ _ => (intOf y).toNat)
  case atStart => exact ⟨x, [], rfl, by omega, rfl, World.ownsRow_nil _ _ _ _, Below.refl _ _⟩
  case round =>
    obtain ⟨z, l, rfl, hz, hl, hown, hbel⟩ := hrel
    have hsz := hbel.size
    have hll : l.length ≤ 10 := by
      have h1 := congrArg List.length hl
      have h2 := Uv.put_len x (by omega)
      simp at h1; omega
    have HL := Lib.hid hl
    have HB := Lib.hid hbel
    have HO := Lib.hid hown
    clear hl hbel
    by_cases hlt : (128 : Int) ≤ z
    · go_wp2_with (at_builtin; refine app_u8 _ rfl _ _ rfl w.heap.size _ l [UInt8.ofNat (z % 128 + 128)] ⟨wr.heap.size, 0, none⟩ 1 1 rfl (hown.alloc _) rfl rfl (one_cell _ _ _ (put_byte z) _) (by omega) (by simp; omega) ?_; intro v' w1 hown1 hg1 _)
      go_roundw
      case rel =>
        refine ⟨z / 128, l ++ [UInt8.ofNat (z % 128 + 128)], by simp, by omega, ?_, hown1, below_app HB.out hsz HO.out hg1⟩
        rw [← HL.out, List.append_assoc, Uv.put_step z (by omega) (by omega)]; rfl
      case measure => simp [intOf]; omega
    · have hfin : Hid (l ++ [UInt8.ofNat z] = Uv.put x) := show _ = _ by rw [← HL.out, Uv.put_small z (by omega)]
      go_wp2_with (at_builtin; refine app_u8 _ rfl _ _ rfl w.heap.size _ l [UInt8.ofNat z] ⟨wr.heap.size, 0, none⟩ 1 1 rfl (hown.alloc _) rfl rfl (one_cell _ _ _ (last_byte z (by omega)) _) (by omega) (by simp; omega) ?_; intro v' w1 hown1 hg1 _; have hcv := conv_own hown1)
      go_ret
      exact ⟨by rw [← hfin.out]; rfl, below_app HB.out hsz HO.out hg1⟩

theorem put_byte' (z : Nat) (h : z < 18446744073709551616) : bits .or .u8 (bits .and .u64 (z : Int) 127 % 256) 128 = ((UInt8.ofNat (z % 128 + 128)).toNat : Int) := by
  rw [show (127 : Int) = ((127 : Nat) : Int) from rfl, u64_and_nat z 127 h (by omega), nat_mask7, show ((z % 128 : Nat) : Int) % 256 = ((z % 128 : Nat) : Int) by omega,
    show (128 : Int) = ((128 : Nat) : Int) from rfl, u8_or_nat _ _ (by omega) (by omega), or128 _ (by omega), Uv.ofNat_toNat (by omega)]
  congr 1; omega
theorem put_ref_any (x : Nat) (hx : (x : Int) ≤ 18446744073709551615) (w : World) :
    Calls Try.prog 54 #[.int .u64 x] w fun e w' => e = .returned (.string ⟨(Uv.put x).toArray⟩) ∧ Below w.heap.size w w' := by
  go_enter Try.func54, Try.ntmps54
  go_wp2
  go_loopw [0, 3] (fun y v wr => ∃ (z : Nat) (l : List UInt8), y = .int .u64 z ∧ (z : Int) ≤ 18446744073709551615 ∧ l ++ Uv.put z = Uv.put x ∧ wr.ownsRow w.heap.size 5 1 v l.length (by8 l) ∧ Below w.heap.size w wr)
    (fun y _ _ => (intOf y).toNat)
  case atStart => exact ⟨x, [], rfl, by omega, rfl, World.ownsRow_nil _ _ _ _, Below.refl _ _⟩
  case round =>
    obtain ⟨z, l, rfl, hz, hl, hown, hbel⟩ := hrel
    have hsz := hbel.size
    have hll : l.length ≤ 10 := by
      have h1 := congrArg List.length hl
      have h2 := Uv.put_len x (by omega)
      simp at h1; omega
    have HL := Lib.hid hl
    have HB := Lib.hid hbel
    have HO := Lib.hid hown
    clear hl hbel
    by_cases hlt : (128 : Int) ≤ z
    · go_wp2_with (at_builtin; refine app_u8 _ rfl _ _ rfl w.heap.size _ l [UInt8.ofNat (z % 128 + 128)] ⟨wr.heap.size, 0, none⟩ 1 1 rfl (hown.alloc _) rfl rfl (one_cell _ _ _ (put_byte' z (by omega)) _) (by omega) (by simp; omega) ?_; intro v' w1 hown1 hg1 _)
      go_roundw
      case rel =>
        refine ⟨z / 128, l ++ [UInt8.ofNat (z % 128 + 128)], by simp, by omega, ?_, hown1, below_app HB.out hsz HO.out hg1⟩
        rw [← HL.out, List.append_assoc, Uv.put_step z (by omega) (by omega)]; rfl
      case measure => simp [intOf]; omega
    · have hfin : Hid (l ++ [UInt8.ofNat z] = Uv.put x) := show _ = _ by rw [← HL.out, Uv.put_small z (by omega)]
      go_wp2_with (at_builtin; refine app_u8 _ rfl _ _ rfl w.heap.size _ l [UInt8.ofNat z] ⟨wr.heap.size, 0, none⟩ 1 1 rfl (hown.alloc _) rfl rfl (one_cell _ _ _ (last_byte z (by omega)) _) (by omega) (by simp; omega) ?_; intro v' w1 hown1 hg1 _; have hcv := conv_own hown1)
      go_ret
      exact ⟨by rw [← hfin.out]; rfl, below_app HB.out hsz HO.out hg1⟩

theorem drop_at (s : ByteArray) (k : Nat) (h : k < s.size) : s.data.toList.drop k = s[k] :: s.data.toList.drop (k + 1) := by
  rw [List.drop_eq_getElem_cons (by simpa using h)]; rfl
theorem acc_eq {a k n : Nat} (hb : n < 256) (ha : a < 128 ^ k) (hk : k < 10) (h9 : k = 9 → n % 128 ≤ 1) :
    bits .or .u64 (a : Int) (IntKind.u64.wrap (IntKind.u64.wrap (bits .and .u8 (n : Int) 127) * 2 ^ (7 * k))) = ((a + n % 128 * 128 ^ k : Nat) : Int) := by
  rw [show (127 : Int) = ((127 : Nat) : Int) from rfl, u8_and_nat _ _ (by omega) (by omega), nat_mask7, IntWalk.u64_in ((n % 128 : Nat) : Int) (by omega), IntKind.wrap_u64]
  rw [show ((n % 128 : Nat) : Int) * 2 ^ (7 * k) % 18446744073709551616 = ((n % 128 * 2 ^ (7 * k) % 18446744073709551616 : Nat) : Int) by simp]
  rw [u64_or_nat _ _ (Uv.acc_lt (by omega) ha) (Nat.mod_lt _ (by omega)), Uv.join ha hk (by omega) h9]
theorem acc_eq9 {a : Nat} (ha : a < 128 ^ 9) : bits .or .u64 (a : Int) (IntKind.u64.wrap (IntKind.u64.wrap (bits .and .u8 1 127) * 9223372036854775808)) = ((a + 1 % 128 * 128 ^ 9 : Nat) : Int) := by
  have := acc_eq (k := 9) (n := 1) (by omega) ha (by omega) (by omega)
  rw [show ((2 : Int) ^ (7 * 9)) = 9223372036854775808 by decide] at this
  exact this
theorem ret_uv {a b c d : Int} {t : Bool} (h : a = b) (h' : c = d) : Ending.returned (.tuple #[.int .u64 a, .int .i64 c, .bool t]) = .returned (.tuple #[.int .u64 b, .int .i64 d, .bool t]) := by rw [h, h']
set_option maxHeartbeats 600000 in
theorem uv_any (s : ByteArray) (hs : s.size ≤ 9223372036854775807) (w : World) :
    Calls Try.prog 65 #[.string s] w fun e w' => e = .returned (.tuple #[.int .u64 (Uv.uvX s.data.toList), .int .i64 (Uv.uvN s.data.toList), .bool (Uv.uvB s.data.toList)]) ∧ w = w' := by
  go_enter Try.func65, Try.ntmps65
  go_wp2
  all_goals
    go_loop [5, 11] (fun x i => ∃ k a : Nat, k ≤ s.size ∧ k ≤ 10 ∧ i = .int .i64 k ∧ x = .int .u64 a ∧ a < 128 ^ k ∧ Uv.rd k a (s.data.toList.drop k) = Uv.rd 0 0 s.data.toList) (fun _ i => 10 - (intOf i).toNat)
    case atStart => exact ⟨0, 0, Nat.zero_le _, by omega, rfl, rfl, by simp, rfl⟩
    case round =>
      obtain ⟨k, a, hk, hk10, rfl, rfl, ha, hr⟩ := hrel
      have HA := Lib.hid ha
      have HR := Lib.hid hr
      clear ha hr
      by_cases hlt : k < s.size ∧ k < 10
      · obtain ⟨h1, h2⟩ := hlt
        have hb0 := s[k].toNat_lt
        obtain ⟨n, hn⟩ : ∃ n, s[k].toNat = n := ⟨_, rfl⟩
        have hb : (n : Int) ≤ 255 := by omega
        clear hb0
        have ha64 : (a : Int) ≤ 18446744073709551615 := by have := Uv.acc_lt (by omega) HA.out; omega
        have H1 := Lib.hid h1
        have HD : Hid (∃ c : UInt8, c.toNat = n ∧ s.data.toList.drop k = c :: s.data.toList.drop (k + 1)) := ⟨s[k], hn, drop_at s k h1⟩
        by_cases h9 : k = 9
        · subst h9
          by_cases g1 : (1 : Int) < n
          · have hd : Uv.rd 0 0 s.data.toList = none := by
              obtain ⟨c, hc, hcd⟩ := HD.out
              rw [← HR.out, hcd]; exact Uv.rd_nine _ _ (by omega)
            have HN := Lib.hid hd
            clear hd
            go_wp2
            go_ret3
            refine ⟨?_, rfl⟩
            rw [(Uv.uv_none HN.out).1, (Uv.uv_none HN.out).2.1, (Uv.uv_none HN.out).2.2]; rfl
          · by_cases h0 : n = 0
            · have hd : Uv.rd 0 0 s.data.toList = none := by
                obtain ⟨c, hc, hcd⟩ := HD.out
                rw [← HR.out, hcd]; exact Uv.rd_zero 9 a _ h2 (by omega) (by omega) (by omega)
              have HN := Lib.hid hd
              clear hd
              subst h0
              go_wp2
              go_ret3
              refine ⟨?_, rfl⟩
              rw [(Uv.uv_none HN.out).1, (Uv.uv_none HN.out).2.1, (Uv.uv_none HN.out).2.2]; rfl
            · obtain rfl : n = 1 := by omega
              have hd : Uv.rd 0 0 s.data.toList = some (a + 1 % 128 * 128 ^ 9, 9 + 1) := by
                obtain ⟨c, hc, hcd⟩ := HD.out
                have h := Uv.rd_last (b := c) 9 a (s.data.toList.drop (9 + 1)) h2 (by omega) (by omega) (by omega)
                rw [hc] at h
                rw [← HR.out, hcd]; exact h
              have HN := Lib.hid hd
              clear hd
              go_wp2
              go_ret3
              refine ⟨?_, rfl⟩
              rw [(Uv.uv_some HN.out).1, (Uv.uv_some HN.out).2.1, (Uv.uv_some HN.out).2.2]
              exact ret_uv (acc_eq9 HA.out) rfl
        · by_cases h128 : (128 : Int) ≤ n
          · go_wp2
            go_round
            case rel =>
              refine ⟨k + 1, a + n % 128 * 128 ^ k, by have := H1.out; omega, by omega, by go_num, int_u64 (acc_eq (by omega) HA.out h2 (by omega)), Uv.join_lt HA.out (Nat.mod_lt _ (by omega)), ?_⟩
              obtain ⟨c, hc, hcd⟩ := HD.out
              rw [← HR.out, hcd, Uv.rd_more k a _ h2 (by omega) (by omega), hc]
            case measure => simp [intOf]; omega
          · by_cases h0 : n = 0 ∧ 0 < k
            · have hd : Uv.rd 0 0 s.data.toList = none := by
                obtain ⟨c, hc, hcd⟩ := HD.out
                rw [← HR.out, hcd]; exact Uv.rd_zero k a _ h2 (by omega) (by omega) (by omega)
              have HN := Lib.hid hd
              clear hd
              go_wp2
              all_goals
                go_ret3
                refine ⟨?_, rfl⟩
                rw [(Uv.uv_none HN.out).1, (Uv.uv_none HN.out).2.1, (Uv.uv_none HN.out).2.2]; rfl
            · have hd : Uv.rd 0 0 s.data.toList = some (a + n % 128 * 128 ^ k, k + 1) := by
                obtain ⟨c, hc, hcd⟩ := HD.out
                rw [← HR.out, hcd, ← hc]; exact Uv.rd_last k a _ h2 (by omega) (by omega) (by omega)
              have HN := Lib.hid hd
              clear hd
              by_cases h00 : n = 0
              · subst h00
                go_wp2
                go_ret3
                refine ⟨?_, rfl⟩
                rw [(Uv.uv_some HN.out).1, (Uv.uv_some HN.out).2.1, (Uv.uv_some HN.out).2.2]
                exact ret_uv (acc_eq (n := 0) (by omega) HA.out h2 (by omega)) (by omega)
              · clear h0
                go_wp2
                go_ret3
                refine ⟨?_, rfl⟩
                rw [(Uv.uv_some HN.out).1, (Uv.uv_some HN.out).2.1, (Uv.uv_some HN.out).2.2]
                exact ret_uv (acc_eq (by omega) HA.out h2 (by omega)) (by omega)
      · have hd : Uv.rd 0 0 s.data.toList = none := by
          rw [← HR.out]
          by_cases hk : k = 10
          · rw [hk]; exact Uv.rd_ten _ _
          · rw [List.drop_of_length_le (by simp; omega)]; rfl
        have HN := Lib.hid hd
        clear hd
        go_wp2
        go_ret3
        refine ⟨?_, rfl⟩
        rw [(Uv.uv_none HN.out).1, (Uv.uv_none HN.out).2.1, (Uv.uv_none HN.out).2.2]; rfl
theorem acc_ref {a k n : Nat} (hb : n < 256) (ha : a < 128 ^ k) (hk : k < 10) (h9 : k = 9 → n % 128 ≤ 1) :
    bits .or .u64 (a : Int) (IntKind.u64.wrap (bits .and .u64 (n : Int) 127 * 2 ^ (7 * k))) = ((a + n % 128 * 128 ^ k : Nat) : Int) := by
  rw [show (127 : Int) = ((127 : Nat) : Int) from rfl, u64_and_nat _ _ (by omega) (by omega), nat_mask7, IntKind.wrap_u64]
  rw [show ((n % 128 : Nat) : Int) * 2 ^ (7 * k) % 18446744073709551616 = ((n % 128 * 2 ^ (7 * k) % 18446744073709551616 : Nat) : Int) by simp]
  rw [u64_or_nat _ _ (Uv.acc_lt (by omega) ha) (Nat.mod_lt _ (by omega)), Uv.join ha hk (by omega) h9]
theorem acc_ref9 {a : Nat} (ha : a < 128 ^ 9) : bits .or .u64 (a : Int) (IntKind.u64.wrap (bits .and .u64 1 127 * 9223372036854775808)) = ((a + 1 % 128 * 128 ^ 9 : Nat) : Int) := by
  have := acc_ref (k := 9) (n := 1) (by omega) ha (by omega) (by omega)
  rw [show ((2 : Int) ^ (7 * 9)) = 9223372036854775808 by decide] at this
  exact this
set_option maxHeartbeats 600000 in
theorem uv_ref_any (s : ByteArray) (hs : s.size ≤ 9223372036854775807) (w : World) :
    Calls Try.prog 52 #[.string s] w fun e w' => e = .returned (.tuple #[.int .u64 (Uv.uvX s.data.toList), .int .i64 (Uv.uvN s.data.toList), .bool (Uv.uvB s.data.toList)]) ∧ w = w' := by
  go_enter Try.func52, Try.ntmps52
  go_wp2
  all_goals
    go_loop [5, 6] (fun x i => ∃ k a : Nat, k ≤ s.size ∧ k ≤ 10 ∧ i = .int .i64 k ∧ x = .int .u64 a ∧ a < 128 ^ k ∧ Uv.rd k a (s.data.toList.drop k) = Uv.rd 0 0 s.data.toList) (fun _ i => 10 - (intOf i).toNat)
    case atStart => exact ⟨0, 0, Nat.zero_le _, by omega, rfl, rfl, by simp, rfl⟩
    case round =>
      obtain ⟨k, a, hk, hk10, rfl, rfl, ha, hr⟩ := hrel
      have HA := Lib.hid ha
      have HR := Lib.hid hr
      clear ha hr
      by_cases hlt : k < s.size ∧ k < 10
      · obtain ⟨h1, h2⟩ := hlt
        have hb0 := s[k].toNat_lt
        obtain ⟨n, hn⟩ : ∃ n, s[k].toNat = n := ⟨_, rfl⟩
        have hb : (n : Int) ≤ 255 := by omega
        clear hb0
        have ha64 : (a : Int) ≤ 18446744073709551615 := by have := Uv.acc_lt (by omega) HA.out; omega
        have H1 := Lib.hid h1
        have HD : Hid (∃ c : UInt8, c.toNat = n ∧ s.data.toList.drop k = c :: s.data.toList.drop (k + 1)) := ⟨s[k], hn, drop_at s k h1⟩
        by_cases h9 : k = 9
        · subst h9
          by_cases g1 : (1 : Int) < n
          · have hd : Uv.rd 0 0 s.data.toList = none := by
              obtain ⟨c, hc, hcd⟩ := HD.out
              rw [← HR.out, hcd]; exact Uv.rd_nine _ _ (by omega)
            have HN := Lib.hid hd
            clear hd
            go_wp2
            go_ret3
            refine ⟨?_, rfl⟩
            rw [(Uv.uv_none HN.out).1, (Uv.uv_none HN.out).2.1, (Uv.uv_none HN.out).2.2]; rfl
          · by_cases h0 : n = 0
            · have hd : Uv.rd 0 0 s.data.toList = none := by
                obtain ⟨c, hc, hcd⟩ := HD.out
                rw [← HR.out, hcd]; exact Uv.rd_zero 9 a _ h2 (by omega) (by omega) (by omega)
              have HN := Lib.hid hd
              clear hd
              subst h0
              go_wp2
              go_ret3
              refine ⟨?_, rfl⟩
              rw [(Uv.uv_none HN.out).1, (Uv.uv_none HN.out).2.1, (Uv.uv_none HN.out).2.2]; rfl
            · obtain rfl : n = 1 := by omega
              have hd : Uv.rd 0 0 s.data.toList = some (a + 1 % 128 * 128 ^ 9, 9 + 1) := by
                obtain ⟨c, hc, hcd⟩ := HD.out
                have h := Uv.rd_last (b := c) 9 a (s.data.toList.drop (9 + 1)) h2 (by omega) (by omega) (by omega)
                rw [hc] at h
                rw [← HR.out, hcd]; exact h
              have HN := Lib.hid hd
              clear hd
              go_wp2
              go_ret3
              refine ⟨?_, rfl⟩
              rw [(Uv.uv_some HN.out).1, (Uv.uv_some HN.out).2.1, (Uv.uv_some HN.out).2.2]
              exact ret_uv (acc_ref9 HA.out) rfl
        · by_cases h128 : (128 : Int) ≤ n
          · go_wp2
            go_round
            case rel =>
              refine ⟨k + 1, a + n % 128 * 128 ^ k, by have := H1.out; omega, by omega, by go_num, int_u64 (acc_ref (by omega) HA.out h2 (by omega)), Uv.join_lt HA.out (Nat.mod_lt _ (by omega)), ?_⟩
              obtain ⟨c, hc, hcd⟩ := HD.out
              rw [← HR.out, hcd, Uv.rd_more k a _ h2 (by omega) (by omega), hc]
            case measure => simp [intOf]; omega
          · by_cases h0 : n = 0 ∧ 0 < k
            · have hd : Uv.rd 0 0 s.data.toList = none := by
                obtain ⟨c, hc, hcd⟩ := HD.out
                rw [← HR.out, hcd]; exact Uv.rd_zero k a _ h2 (by omega) (by omega) (by omega)
              have HN := Lib.hid hd
              clear hd
              go_wp2
              all_goals
                go_ret3
                refine ⟨?_, rfl⟩
                rw [(Uv.uv_none HN.out).1, (Uv.uv_none HN.out).2.1, (Uv.uv_none HN.out).2.2]; rfl
            · have hd : Uv.rd 0 0 s.data.toList = some (a + n % 128 * 128 ^ k, k + 1) := by
                obtain ⟨c, hc, hcd⟩ := HD.out
                rw [← HR.out, hcd, ← hc]; exact Uv.rd_last k a _ h2 (by omega) (by omega) (by omega)
              have HN := Lib.hid hd
              clear hd
              by_cases h00 : n = 0
              · subst h00
                go_wp2
                go_ret3
                refine ⟨?_, rfl⟩
                rw [(Uv.uv_some HN.out).1, (Uv.uv_some HN.out).2.1, (Uv.uv_some HN.out).2.2]
                exact ret_uv (acc_ref (n := 0) (by omega) HA.out h2 (by omega)) (by omega)
              · clear h0
                go_wp2
                all_goals
                  go_ret3
                  refine ⟨?_, rfl⟩
                  rw [(Uv.uv_some HN.out).1, (Uv.uv_some HN.out).2.1, (Uv.uv_some HN.out).2.2]
                  exact ret_uv (acc_ref (by omega) HA.out h2 (by omega)) (by omega)
      · have hd : Uv.rd 0 0 s.data.toList = none := by
          rw [← HR.out]
          by_cases hk : k = 10
          · rw [hk]; exact Uv.rd_ten _ _
          · rw [List.drop_of_length_le (by simp; omega)]; rfl
        have HN := Lib.hid hd
        clear hd
        by_cases h1 : k < s.size
        · go_wp2
          go_ret3
          refine ⟨?_, rfl⟩
          rw [(Uv.uv_none HN.out).1, (Uv.uv_none HN.out).2.1, (Uv.uv_none HN.out).2.2]; rfl
        · go_wp2
          go_ret3
          refine ⟨?_, rfl⟩
          rw [(Uv.uv_none HN.out).1, (Uv.uv_none HN.out).2.1, (Uv.uv_none HN.out).2.2]; rfl
/-- '[]byte(s)': a new block. -/
theorem bytes_of (s : ByteArray) (w : World) : ∃ (C : Array Value) (cap : Nat), s.size ≤ C.size ∧ (∀ i (h : i < s.size), C[i]? = some (.int .u8 s[i].toNat)) ∧
    (convert 9 52 (.string s)).run Try.prog w = .ok (.slice (some ⟨w.heap.size, 0, none⟩) s.size cap) (w.drew.alloc (.cells C 5 (C.size, C.size + 1))) := by
  refine ⟨bytesRow s (grownCap w s.size 0 5), grownCap w s.size 0 5, ?_, fun i h => bytesRow_at s _ i h, run_bytes_of_string (P := Try.prog) w 9 52 5 s Try.underlying9 Try.underlying52 Try.underlying5⟩
  rcases Nat.lt_or_ge (bytesRow s (grownCap w s.size 0 5)).size s.size with h | h
  · have := bytesRow_at s (grownCap w s.size 0 5) _ h
    simp at this
  · exact h
theorem bytes_back (w : World) (a : Addr) (cap : Nat) (l : List UInt8) (hc : ∀ j (hj : j < l.length), w.cell? (a.add j) = some (.int .u8 (l[j].toNat : Int))) :
    (convert 52 9 (.slice (some a) l.length cap)).run Try.prog w = .ok (.string ⟨l.toArray⟩) w :=
  run_convert_bytes_back w _ _ 5 a cap l Try.underlying52 Try.underlying5 Try.underlying9 hc
/-- The hash's contracts at whatever number. -/
theorem hash_int (h : Int) (s : ByteArray) (h0 : 0 ≤ h) (hh : h ≤ 18446744073709551615) (hs : s.size ≤ 9223372036854775807) (w : World) :
    Calls Try.prog 97 #[.int .u64 h, .string s] w fun e w' => e = .returned (.int .u64 (Hs.hash h.toNat s.data.toList)) ∧ w' = w := by
  obtain ⟨n, rfl⟩ := Int.eq_ofNat_of_zero_le h0
  exact (hash_any n s hh hs w).mono fun e w' ⟨h1, h2⟩ => ⟨h1, h2.symm⟩
theorem hash_ref_int (h : Int) (s : ByteArray) (h0 : 0 ≤ h) (hh : h ≤ 18446744073709551615) (hs : s.size ≤ 9223372036854775807) (w : World) :
    Calls Try.prog 78 #[.int .u64 h, .string s] w fun e w' => e = .returned (.int .u64 (Hs.hash h.toNat s.data.toList)) ∧ w' = w := by
  obtain ⟨n, rfl⟩ := Int.eq_ofNat_of_zero_le h0
  exact (hash_ref_any n s hh hs w).mono fun e w' ⟨h1, h2⟩ => ⟨h1, h2.symm⟩
end Strs
end Go.Proofs.Ytmmnanmegdflgaa

set_option linter.unusedVariables false
set_option maxRecDepth 100000
namespace Go.Proofs.Ytmmnanmegdflgaa
open Go.RowKit
namespace Lgc
open Lg Strs
theorem box_cell {w : World} {q : Nat} {cs : Array Value} {t : TypeId} (h : w.heap[q]? = some (.cells cs t (0, 0))) (j : Nat) {v : Value} (hv : cs[j]? = some v) : w.cell? ⟨q, j, none⟩ = some v := by simp [World.cell?, h, hv]
theorem box_free {w : World} {q : Nat} {cs : Array Value} {t : TypeId} (h : w.heap[q]? = some (.cells cs t (0, 0))) (j : Nat) : w.frozen? ⟨q, j, none⟩ = false := by simp [World.frozen?, h]
theorem box_set {w : World} {q : Nat} {cs : Array Value} {t : TypeId} (h : w.heap[q]? = some (.cells cs t (0, 0))) (j : Nat) (v : Value) : (w.setCell ⟨q, j, none⟩ v).heap[q]? = some (.cells (cs.setIfInBounds j v) t (0, 0)) := by
  simp [World.setCell, Array.getElem?_modify, h]
theorem box_new (w : World) (o : Obj) : (w.alloc o).heap[w.heap.size]? = some o := heap_alloc_new w o
theorem box_lt {w : World} {q : Nat} {o : Obj} (h : w.heap[q]? = some o) : q < w.heap.size := (Array.getElem?_eq_some_iff.1 h).1
theorem grown_set (w : World) (q j : Nat) (v : Value) : w.grownBy (w.setCell ⟨q, j, none⟩ v) (some q) :=
  ⟨rfl, rfl, rfl, by simp [World.setCell], fun k hk hne => by simp [World.setCell, Array.getElem?_modify]; intro e; exact absurd (by rw [e]) hne⟩
theorem grown_refl (w : World) (r : Option Nat) : w.grownBy w r := ⟨rfl, rfl, rfl, Nat.le_refl _, fun _ _ _ => rfl⟩
theorem grown_trans {w a b : World} {r : Option Nat} (h : w.grownBy a r) (k : a.grownBy b r) : w.grownBy b r :=
  ⟨k.os.trans h.os, k.tape.trans h.tape, k.output.trans h.output, Nat.le_trans h.size k.size, fun q hq hr => (k.block q (Nat.lt_of_lt_of_le hq h.size) hr).trans (h.block q hq hr)⟩
theorem grown_held {w a : World} {r : Option Nat} (h : Held w a) : w.grownBy a r := ⟨h.os, h.tape, h.output, h.size, fun q hq _ => h.block q hq⟩
theorem held_of {W w a : World} {q : Nat} (h : Held W w) (hg : w.grownBy a (some q)) (hq : W.heap.size ≤ q) : Held W a :=
  Below.grown h hg h.size (fun k hk => by injection hk with hk; omega)
theorem ext_drop (t : ByteArray) (q : Nat) : (t.extract q t.size).data.toList = t.data.toList.drop q := by
  rw [ByteArray.data_extract, Array.toList_extract, List.extract_eq_take_drop, List.take_of_length_le (by simp)]
theorem ext_take (t : ByteArray) (q : Nat) : (t.extract 0 q).data.toList = t.data.toList.take q := by
  rw [ByteArray.data_extract, Array.toList_extract, List.extract_eq_take_drop]; simp
theorem len_eq (t : ByteArray) : t.data.toList.length = t.size := by simp
/-- What a reader leaves in its box. -/
def Left (T : TypeId) (b : Nat) (l : List UInt8) (bad : Bool) (w w' : World) : Prop := ∃ s : ByteArray, s.data.toList = l ∧ w'.heap[b]? = some (.cells #[.string s, .bool bad] T (0, 0)) ∧ w.grownBy w' (some b)
def Reads (T : TypeId) (v : Value) (b : Nat) (l : List UInt8) (bad : Bool) (w : World) (e : Ending) (w' : World) : Prop := e = .returned v ∧ Left T b l bad w w'
theorem numR_yes {l : List UInt8} (h : Uv.uvB l = true) : numR l false = (Uv.uvX l, l.drop (Uv.uvN l), false) := by unfold numR; rw [h]; rfl
theorem numR_no {l : List UInt8} {b : Bool} (h : (Uv.uvB l && !b) = false) : numR l b = (0, l, true) := by unfold numR; rw [h]; rfl
theorem number_any (b : Nat) (s : ByteArray) (bad : Bool) (hs : s.size ≤ 9223372036854775807) (w : World) (hb : w.heap[b]? = some (.cells #[.string s, .bool bad] 118 (0, 0))) :
    Calls Try.prog 93 #[.pointer (some ⟨b, 0, none⟩)] w (Reads 118 (.int .u64 (numR s.data.toList bad).1) b (numR s.data.toList bad).2.1 (numR s.data.toList bad).2.2 w) := by
  have c0 : w.cell? ⟨b, 0, none⟩ = some (.string s) := box_cell hb 0 rfl
  have c1 : w.cell? ⟨b, 1, none⟩ = some (.bool bad) := box_cell hb 1 rfl
  have f0 := box_free hb 0
  have f1 := box_free hb 1
  have HB := Lib.hid hb
  clear hb
  have hn := Uv.uvN_le s.data.toList
  rw [len_eq] at hn
  cases hu : Uv.uvB s.data.toList
  · have H := Lib.hid (numR_no (l := s.data.toList) (b := bad) (by rw [hu]; rfl))
    go_enter Try.func93, Try.ntmps93
    go_wp2_with (go_at_call 65; refine (uv_any s hs _).mono ?_; rintro e w' ⟨rfl, rfl⟩; rw [hu])
    go_ret
    refine ⟨by rw [H.out]; rfl, s, by rw [H.out], ?_, grown_set _ _ _ _⟩
    rw [H.out, box_set HB.out]; rfl
  · have HN := Lib.hid hu
    obtain ⟨n, hn'⟩ : ∃ n, Uv.uvN s.data.toList = n := ⟨_, rfl⟩
    have HNN := Lib.hid hn'
    rw [hn'] at hn
    clear hn'
    have i1 : (n : Int) ≤ (s.size : Int) := by omega
    cases bad
    · have H := Lib.hid (numR_yes hu)
      clear hu
      go_enter Try.func93, Try.ntmps93
      go_wp2_with (go_at_call 65; refine (uv_any s hs _).mono ?_; rintro e w' ⟨rfl, rfl⟩; rw [HN.out, HNN.out])
      go_ret
      refine ⟨by rw [H.out]; rfl, s.extract n s.size, by rw [H.out, HNN.out, ext_drop], ?_, grown_set _ _ _ _⟩
      rw [H.out, box_set HB.out]; rfl
    · have H := Lib.hid (numR_no (l := s.data.toList) (b := true) (by simp))
      clear hu
      go_enter Try.func93, Try.ntmps93
      go_wp2_with (go_at_call 65; refine (uv_any s hs _).mono ?_; rintro e w' ⟨rfl, rfl⟩; rw [HN.out])
      go_ret
      refine ⟨by rw [H.out]; rfl, s, by rw [H.out], ?_, grown_set _ _ _ _⟩
      rw [H.out, box_set HB.out]; rfl
theorem number_ref_any (b : Nat) (s : ByteArray) (bad : Bool) (hs : s.size ≤ 9223372036854775807) (w : World) (hb : w.heap[b]? = some (.cells #[.string s, .bool bad] 107 (0, 0))) :
    Calls Try.prog 80 #[.pointer (some ⟨b, 0, none⟩)] w (Reads 107 (.int .u64 (numR s.data.toList bad).1) b (numR s.data.toList bad).2.1 (numR s.data.toList bad).2.2 w) := by
  have c0 : w.cell? ⟨b, 0, none⟩ = some (.string s) := box_cell hb 0 rfl
  have c1 : w.cell? ⟨b, 1, none⟩ = some (.bool bad) := box_cell hb 1 rfl
  have f0 := box_free hb 0
  have f1 := box_free hb 1
  have HB := Lib.hid hb
  clear hb
  have hn := Uv.uvN_le s.data.toList
  rw [len_eq] at hn
  have HN0 := fun (x : Bool) (h : Uv.uvB s.data.toList = x) => Lib.hid h
  obtain ⟨n, hn'⟩ : ∃ n, Uv.uvN s.data.toList = n := ⟨_, rfl⟩
  have HNN := Lib.hid hn'
  rw [hn'] at hn
  clear hn'
  have i1 : (n : Int) ≤ (s.size : Int) := by omega
  cases bad
  · cases hu : Uv.uvB s.data.toList
    · have H := Lib.hid (numR_no (l := s.data.toList) (b := false) (by rw [hu]; rfl))
      have HN := HN0 _ hu
      clear hu HN0
      go_enter Try.func80, Try.ntmps80
      go_wp2_with (go_at_call 52; refine (uv_ref_any s hs _).mono ?_; rintro e w' ⟨rfl, rfl⟩; rw [HN.out])
      go_ret
      refine ⟨by rw [H.out]; rfl, s, by rw [H.out], ?_, grown_set _ _ _ _⟩
      rw [H.out, box_set HB.out]; rfl
    · have H := Lib.hid (numR_yes hu)
      have HN := HN0 _ hu
      clear hu HN0
      go_enter Try.func80, Try.ntmps80
      go_wp2_with (go_at_call 52; refine (uv_ref_any s hs _).mono ?_; rintro e w' ⟨rfl, rfl⟩; rw [HN.out, HNN.out])
      go_ret
      refine ⟨by rw [H.out]; rfl, s.extract n s.size, by rw [H.out, HNN.out, ext_drop], ?_, grown_set _ _ _ _⟩
      rw [H.out, box_set HB.out]; rfl
  · have H := Lib.hid (numR_no (l := s.data.toList) (b := true) (by simp))
    clear HN0
    go_enter Try.func80, Try.ntmps80
    go_wp2_with (go_at_call 52; refine (uv_ref_any s hs _).mono ?_; rintro e w' ⟨rfl, rfl⟩)
    go_ret
    refine ⟨by rw [H.out]; rfl, s, by rw [H.out], ?_, grown_set _ _ _ _⟩
    rw [H.out, box_set HB.out]; rfl
def ReadsS (T : TypeId) (d : List UInt8) (b : Nat) (l : List UInt8) (bad : Bool) (w : World) (e : Ending) (w' : World) : Prop := ∃ t : ByteArray, e = .returned (.string t) ∧ t.data.toList = d ∧ Left T b l bad w w'
theorem bytesR_no {n : Nat} {l : List UInt8} {b : Bool} (h : (b || decide (l.length < n)) = true) : bytesR n l b = ([], l, true) := by unfold bytesR; rw [if_pos h]
theorem bytesR_yes {n : Nat} {l : List UInt8} (h : ¬ l.length < n) : bytesR n l false = (l.take n, l.drop n, false) := by unfold bytesR; rw [if_neg (by simp; omega)]
theorem data_any (b : Nat) (s : ByteArray) (bad : Bool) (hs : s.size ≤ 9223372036854775807) (w : World) (hb : w.heap[b]? = some (.cells #[.string s, .bool bad] 118 (0, 0))) :
    Calls Try.prog 94 #[.pointer (some ⟨b, 0, none⟩)] w (ReadsS 118 (dataR s.data.toList bad).1 b (dataR s.data.toList bad).2.1 (dataR s.data.toList bad).2.2 w) := by
  have hll := numR_len s.data.toList bad
  have hlt := numR_lt s.data.toList bad
  rw [len_eq] at hll
  have HD : Hid (dataR s.data.toList bad = bytesR (numR s.data.toList bad).1 (numR s.data.toList bad).2.1 (numR s.data.toList bad).2.2) := rfl
  have hnum := Lib.hid (number_any b s bad hs w hb)
  obtain ⟨⟨n, l1, b1⟩, hN⟩ : ∃ x, numR s.data.toList bad = x := ⟨_, rfl⟩
  rw [hN] at hll hlt HD hnum
  simp only at hll hlt HD hnum
  clear hN
  go_enter Try.func94, Try.ntmps94
  go_wp2_with fail
  refine hnum.out.mono ?_
  rintro e w1 ⟨rfl, s1, hs1, hb1, hg1⟩
  have hsz : s1.size = l1.length := by rw [← hs1, len_eq]
  have i1 : (s1.size : Int) ≤ 9223372036854775807 := by omega
  have hn64 : (n : Int) ≤ 18446744073709551615 := by omega
  have c0 : w1.cell? ⟨b, 0, none⟩ = some (.string s1) := box_cell hb1 0 rfl
  have c1 : w1.cell? ⟨b, 1, none⟩ = some (.bool b1) := box_cell hb1 1 rfl
  have f0 := box_free hb1 0
  have f1 := box_free hb1 1
  have HB := Lib.hid hb1
  have HG := Lib.hid hg1
  have HS1 := Lib.hid hs1
  have HSZ := Lib.hid hsz
  clear hb1 hg1 hs1 hsz hb hnum hll hlt
  cases b1
  · by_cases hlt : (s1.size : Int) < (n : Int)
    · have H := Lib.hid (HD.out.trans (bytesR_no (by rw [← HSZ.out]; simp; omega)))
      go_wp2
      go_ret
      refine ⟨_, rfl, by rw [H.out], s1, by rw [H.out]; exact HS1.out, ?_, grown_trans HG.out (grown_set _ _ _ _)⟩
      rw [H.out, box_set HB.out]; rfl
    · have H := Lib.hid (HD.out.trans (bytesR_yes (by rw [← HSZ.out]; omega)))
      have i2 : (n : Int) ≤ (s1.size : Int) := by omega
      go_wp2
      go_ret
      refine ⟨_, rfl, by rw [H.out]; exact (ext_take _ _).trans (by rw [HS1.out]), s1.extract n s1.size, by rw [H.out, ext_drop, HS1.out], ?_, grown_trans HG.out (grown_set _ _ _ _)⟩
      rw [H.out, box_set HB.out]; rfl
  · have H := Lib.hid (HD.out.trans (bytesR_no (by simp)))
    go_wp2
    go_ret
    refine ⟨_, rfl, by rw [H.out], s1, by rw [H.out]; exact HS1.out, ?_, grown_trans HG.out (grown_set _ _ _ _)⟩
    rw [H.out, box_set HB.out]; rfl
theorem bytes_ref_any (b : Nat) (s1 : ByteArray) (b1 : Bool) (n : Int) (h0 : 0 ≤ n) (hn64 : n ≤ 18446744073709551615) (hs : s1.size ≤ 9223372036854775807) (w1 : World) (hb1 : w1.heap[b]? = some (.cells #[.string s1, .bool b1] 107 (0, 0))) :
    Calls Try.prog 81 #[.pointer (some ⟨b, 0, none⟩), .int .u64 n] w1 (ReadsS 107 (bytesR n.toNat s1.data.toList b1).1 b (bytesR n.toNat s1.data.toList b1).2.1 (bytesR n.toNat s1.data.toList b1).2.2 w1) := by
  obtain ⟨n, rfl⟩ := Int.eq_ofNat_of_zero_le h0
  rw [Int.toNat_natCast]
  have i1 : (s1.size : Int) ≤ 9223372036854775807 := by omega
  have c0 : w1.cell? ⟨b, 0, none⟩ = some (.string s1) := box_cell hb1 0 rfl
  have c1 : w1.cell? ⟨b, 1, none⟩ = some (.bool b1) := box_cell hb1 1 rfl
  have f0 := box_free hb1 0
  have f1 := box_free hb1 1
  have HB := Lib.hid hb1
  have HSZ := Lib.hid (len_eq s1)
  clear hb1
  cases b1
  · by_cases hlt : (s1.size : Int) < (n : Int)
    · have H := Lib.hid (bytesR_no (n := n) (l := s1.data.toList) (b := false) (by rw [HSZ.out]; simp; omega))
      go_enter Try.func81, Try.ntmps81
      go_wp2
      go_ret
      refine ⟨_, rfl, by rw [H.out], s1, by rw [H.out], ?_, grown_set _ _ _ _⟩
      rw [H.out, box_set HB.out]; rfl
    · have H := Lib.hid (bytesR_yes (n := n) (l := s1.data.toList) (by rw [HSZ.out]; omega))
      have i2 : (n : Int) ≤ (s1.size : Int) := by omega
      go_enter Try.func81, Try.ntmps81
      go_wp2
      go_ret
      refine ⟨_, rfl, by rw [H.out]; exact ext_take _ _, s1.extract n s1.size, by rw [H.out, ext_drop], ?_, grown_set _ _ _ _⟩
      rw [H.out, box_set HB.out]; rfl
  · have H := Lib.hid (bytesR_no (n := n) (l := s1.data.toList) (b := true) (by simp))
    go_enter Try.func81, Try.ntmps81
    go_wp2
    go_ret
    refine ⟨_, rfl, by rw [H.out], s1, by rw [H.out], ?_, grown_set _ _ _ _⟩
    rw [H.out, box_set HB.out]; rfl
end Lgc
end Go.Proofs.Ytmmnanmegdflgaa

set_option linter.unusedVariables false
set_option linter.unusedSimpArgs false
set_option maxRecDepth 100000
namespace Go.Proofs.Ytmmnanmegdflgaa
open Go.RowKit
namespace Lgc
open Lg Strs
theorem jnumber_any (b : Nat) (s : ByteArray) (bad : Bool) (hs : s.size ≤ 9223372036854775807) (w : World) (hb : w.heap[b]? = some (.cells #[.string s, .bool bad] 60 (0, 0))) :
    Calls Try.prog 31 #[.pointer (some ⟨b, 0, none⟩)] w (Reads 60 (.int .u64 (numR s.data.toList bad).1) b (numR s.data.toList bad).2.1 (numR s.data.toList bad).2.2 w) := by
  have c0 : w.cell? ⟨b, 0, none⟩ = some (.string s) := box_cell hb 0 rfl
  have c1 : w.cell? ⟨b, 1, none⟩ = some (.bool bad) := box_cell hb 1 rfl
  have f0 := box_free hb 0
  have f1 := box_free hb 1
  have HB := Lib.hid hb
  clear hb
  have hn := Uv.uvN_le s.data.toList
  rw [len_eq] at hn
  have HN0 := fun (x : Bool) (h : Uv.uvB s.data.toList = x) => Lib.hid h
  obtain ⟨n, hn'⟩ : ∃ n, Uv.uvN s.data.toList = n := ⟨_, rfl⟩
  have HNN := Lib.hid hn'
  rw [hn'] at hn
  clear hn'
  have i1 : (n : Int) ≤ (s.size : Int) := by omega
  cases bad
  · cases hu : Uv.uvB s.data.toList
    · have H := Lib.hid (numR_no (l := s.data.toList) (b := false) (by rw [hu]; rfl))
      have HN := HN0 _ hu
      clear hu HN0
      go_enter Try.func31, Try.ntmps31
      go_wp2_with (go_at_call 65; refine (uv_any s hs _).mono ?_; rintro e w' ⟨rfl, rfl⟩; rw [HN.out])
      go_ret
      refine ⟨by rw [H.out]; rfl, s, by rw [H.out], ?_, grown_set _ _ _ _⟩
      rw [H.out, box_set HB.out]; rfl
    · have H := Lib.hid (numR_yes hu)
      have HN := HN0 _ hu
      clear hu HN0
      go_enter Try.func31, Try.ntmps31
      go_wp2_with (go_at_call 65; refine (uv_any s hs _).mono ?_; rintro e w' ⟨rfl, rfl⟩; rw [HN.out, HNN.out])
      go_ret
      refine ⟨by rw [H.out]; rfl, s.extract n s.size, by rw [H.out, HNN.out, ext_drop], ?_, grown_set _ _ _ _⟩
      rw [H.out, box_set HB.out]; rfl
  · have H := Lib.hid (numR_no (l := s.data.toList) (b := true) (by simp))
    clear HN0
    go_enter Try.func31, Try.ntmps31
    go_wp2
    go_ret
    exact ⟨by rw [H.out]; rfl, s, by rw [H.out], by rw [H.out]; exact HB.out, grown_refl _ _⟩
theorem jbytes_any (b : Nat) (s1 : ByteArray) (b1 : Bool) (n : Int) (h0 : 0 ≤ n) (hn64 : n ≤ 18446744073709551615) (hs : s1.size ≤ 9223372036854775807) (w1 : World) (hb1 : w1.heap[b]? = some (.cells #[.string s1, .bool b1] 60 (0, 0))) :
    Calls Try.prog 32 #[.pointer (some ⟨b, 0, none⟩), .int .u64 n] w1 (ReadsS 60 (bytesR n.toNat s1.data.toList b1).1 b (bytesR n.toNat s1.data.toList b1).2.1 (bytesR n.toNat s1.data.toList b1).2.2 w1) := by
  obtain ⟨n, rfl⟩ := Int.eq_ofNat_of_zero_le h0
  rw [Int.toNat_natCast]
  have i1 : (s1.size : Int) ≤ 9223372036854775807 := by omega
  have c0 : w1.cell? ⟨b, 0, none⟩ = some (.string s1) := box_cell hb1 0 rfl
  have c1 : w1.cell? ⟨b, 1, none⟩ = some (.bool b1) := box_cell hb1 1 rfl
  have f0 := box_free hb1 0
  have f1 := box_free hb1 1
  have HB := Lib.hid hb1
  have HSZ := Lib.hid (len_eq s1)
  clear hb1
  cases b1
  · by_cases hlt : (s1.size : Int) < (n : Int)
    · have H := Lib.hid (bytesR_no (n := n) (l := s1.data.toList) (b := false) (by rw [HSZ.out]; simp; omega))
      go_enter Try.func32, Try.ntmps32
      go_wp2
      go_ret
      refine ⟨_, rfl, by rw [H.out], s1, by rw [H.out], ?_, grown_set _ _ _ _⟩
      rw [H.out, box_set HB.out]; rfl
    · have H := Lib.hid (bytesR_yes (n := n) (l := s1.data.toList) (by rw [HSZ.out]; omega))
      have i2 : (n : Int) ≤ (s1.size : Int) := by omega
      go_enter Try.func32, Try.ntmps32
      go_wp2
      go_ret
      refine ⟨_, rfl, by rw [H.out]; exact ext_take _ _, s1.extract n s1.size, by rw [H.out, ext_drop], ?_, grown_set _ _ _ _⟩
      rw [H.out, box_set HB.out]; rfl
  · have H := Lib.hid (bytesR_no (n := n) (l := s1.data.toList) (b := true) (by simp))
    go_enter Try.func32, Try.ntmps32
    go_wp2
    go_ret
    refine ⟨_, rfl, by rw [H.out], s1, by rw [H.out], ?_, grown_set _ _ _ _⟩
    rw [H.out, box_set HB.out]; rfl
end Lgc
end Go.Proofs.Ytmmnanmegdflgaa
