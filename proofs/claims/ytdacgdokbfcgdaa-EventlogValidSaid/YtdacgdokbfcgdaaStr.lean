/-
  Contracts: the hash and the varints of chapter 1 (package bits and the reference) compute the plain functions of Hs and Uv.
-/
import Derived.Test.YtdacgdokbfcgdaaProg
import Derived.Test.YtdacgdokbfcgdaaUv
import Derived.Test.YtdacgdokbfcgdaaHs
import Derived.WalkKit
import Derived.Lib.Hide
import Derived.WalkSpells
import Derived.WalkLawsBesides
import Derived.BigQuiet
import Derived.Deep.QuietTactic
set_option linter.unusedVariables false
set_option maxRecDepth 100000
namespace Go.Proofs.Ytdacgdokbfcgdaa
open Go.RowKit
namespace Strs
theorem ret_u64 {a b : Int} (h : a = b) : Ending.returned (.int .u64 a) = .returned (.int .u64 b) := by rw [h]
theorem int_u64 {a b : Int} (h : a = b) : Value.int .u64 a = .int .u64 b := by rw [h]
theorem take_snoc (s : ByteArray) (k : Nat) (h : k < s.size) : s.data.toList.take (k + 1) = s.data.toList.take k ++ [s[k]] := by
  rw [List.take_succ_eq_append_getElem (by simpa using h)]; rfl
theorem take_all (s : ByteArray) : s.data.toList.take s.size = s.data.toList := List.take_of_length_le (by simp)
theorem step_eq (h : Nat) (c : UInt8) (hh : h < 18446744073709551616) : IntKind.u64.wrap (bits .xor .u64 (h : Int) (c.toNat : Int) * 1099511628211) = (Hs.step h c : Int) := by
  rw [u64_xor_nat h _ hh (by have := c.toNat_lt; omega), IntKind.wrap_u64]
  unfold Hs.step; simp
theorem hash_any (h : Nat) (s : ByteArray) (hh : (h : Int) ≤ 18446744073709551615) (hs : s.size ≤ 9223372036854775807) (w : World) :
    Calls Try.prog 33 #[.int .u64 h, .string s] w fun e w' => e = .returned (.int .u64 (Hs.hash h s.data.toList)) ∧ w = w' := by
  have TA := Lib.hid (take_all s)
  go_enter Try.func33, Try.ntmps33
  go_wp2
  go_loop [0, 8] (fun x i => ∃ k : Nat, k ≤ s.size ∧ i = .int .i64 k ∧ x = .int .u64 (Hs.hash h (s.data.toList.take k))) (fun _ i => s.size - (intOf i).toNat)
  case atStart => exact ⟨0, Nat.zero_le _, rfl, rfl⟩
  case round =>
    obtain ⟨k, hk, rfl, rfl⟩ := hrel
    have hl := Hs.hash_lt h (s.data.toList.take k) (by omega)
    by_cases hlt : k < s.size
    · have hb : (s[k].toNat : Int) ≤ 255 := by have := s[k].toNat_lt; omega
      have HS := Lib.hid (Hs.hash_snoc h (s.data.toList.take k) s[k])
      have HT := Lib.hid (take_snoc s k hlt)
      have HE := Lib.hid (step_eq _ s[k] hl)
      clear hl
      go_wp2
      go_round
      case rel => exact ⟨k + 1, by omega, by go_num, int_u64 (by rw [HT.out, HS.out, ← HE.out])⟩
      case measure => simp [intOf]; omega
    · obtain rfl : k = s.size := by omega
      go_wp2
      go_ret
      exact ⟨ret_u64 (by rw [TA.out]), rfl⟩
theorem hash_ref_any (h : Nat) (s : ByteArray) (hh : (h : Int) ≤ 18446744073709551615) (hs : s.size ≤ 9223372036854775807) (w : World) :
    Calls Try.prog 24 #[.int .u64 h, .string s] w fun e w' => e = .returned (.int .u64 (Hs.hash h s.data.toList)) ∧ w = w' := by
  have TA := Lib.hid (take_all s)
  go_enter Try.func24, Try.ntmps24
  go_wp2
  go_loop [0, 5] (fun x i => ∃ k : Nat, k ≤ s.size ∧ i = .int .i64 k ∧ x = .int .u64 (Hs.hash h (s.data.toList.take k))) (fun _ i => s.size - (intOf i).toNat)
  case atStart => exact ⟨0, Nat.zero_le _, rfl, rfl⟩
  case round =>
    obtain ⟨k, hk, rfl, rfl⟩ := hrel
    have hl := Hs.hash_lt h (s.data.toList.take k) (by omega)
    by_cases hlt : k < s.size
    · have hb : (s[k].toNat : Int) ≤ 255 := by have := s[k].toNat_lt; omega
      have HS := Lib.hid (Hs.hash_snoc h (s.data.toList.take k) s[k])
      have HT := Lib.hid (take_snoc s k hlt)
      have HE := Lib.hid (step_eq _ s[k] hl)
      clear hl
      go_wp2
      go_round
      case rel => exact ⟨k + 1, by omega, by go_num, int_u64 (by rw [HT.out, HS.out, ← HE.out])⟩
      case measure => simp [intOf]; omega
    · obtain rfl : k = s.size := by omega
      go_wp2
      go_ret
      exact ⟨ret_u64 (by rw [TA.out]), rfl⟩

/-- The bytes of the encoding that lie before x when the loop has come so far. -/
theorem str_eq {a b : List UInt8} (h : a = b) : Ending.returned (.string ⟨a.toArray⟩) = .returned (.string ⟨b.toArray⟩) := by rw [h]
theorem Tryinfo_u8 : (Try.prog.info? 5).map (fun i => (i.zero, i.size, i.bytes)) = some (some (.int .u8 0), 1, 1) := by kernel_rfl
/-- Bytes as the cells of a slice. -/
def by8 (l : List UInt8) : List Value := l.map fun c => Value.int .u8 c.toNat
theorem by8_append (a b : List UInt8) : by8 (a ++ b) = by8 a ++ by8 b := List.map_append
theorem by8_one (l : List UInt8) : ∀ u ∈ by8 l, u.oneCell' = true := by
  intro u hu; obtain ⟨c, _, rfl⟩ := List.mem_map.1 hu; rfl
theorem by8_at {l : List UInt8} {j : Nat} {u : Value} (h : (by8 l)[j]? = some u) : ∃ h : j < l.length, u = .int .u8 l[j].toNat := by
  unfold by8 at h
  rw [List.getElem?_map] at h
  cases e : l[j]? with
  | none => simp [e] at h
  | some c =>
    obtain ⟨hj, rfl⟩ := List.getElem?_eq_some_iff.1 e
    simp [e] at h
    exact ⟨hj, h.symm⟩
/-- Append to bytes that the call itself made. -/
theorem app_u8 (w : World) {ops : Array Oper} {rest : List Oper} {o : Oper} {a : Act} {Q : Exit → Act → World → Prop} (hgd : o.guard = none) (s x : Operand)
    (ho : o.op = .call { callee := .builtin .append, args := #[s, x], argTypes := #[34, 34] }) (base : Nat) (v : Value) (l news : List UInt8) (ad : Addr) (m c : Nat)
    (hs : a.eval s = v) (hown : w.ownsRow base 5 1 v l.length (by8 l)) (hx : a.eval x = .slice (some ad) m c) (hm : news.length = m)
    (hnews : ∀ j (h : j < news.length), w.cell? (ad.add j) = some (.int .u8 news[j].toNat)) (hb : l.length + m ≤ 140737488355328) (hbase : base ≤ w.heap.size)
    (h : ∀ v' w', w'.ownsRow base 5 1 v' (l ++ news).length (by8 (l ++ news)) → w.grownBy w' v.ownBlock → (v' = .slice none 0 0 ↔ v = .slice none 0 0 ∧ m = 0) → wpList Try.prog ops Q rest (a.put o.dst v') w') :
    wpList Try.prog ops Q (o :: rest) a w := by
  obtain ⟨i0, hi, hz0, hz1, hz2⟩ := info_parts Tryinfo_u8
  refine wpList_append_own w hgd s x 34 ho base 5 i0 (.int .u8 0) 1 1 Try.underlying34 hi hz0 hz1 hz2 rfl (by decide) v l.length (by8 l) hs hown ad m c (by8 news) hx (by simp [by8, hm]) ?_ (by8_one news) (by unfold maxLen; omega) (by omega) hbase ?_
  · intro j u hj
    obtain ⟨hk, rfl⟩ := by8_at hj
    exact hnews j hk
  · intro v' w' h1 h2 h3
    refine h v' w' ?_ h2 h3
    rw [by8_append, List.length_append, hm]; exact h1
/-- A row of one byte that was just made. -/
theorem one_cell (w : World) (n : Int) (c : UInt8) (h : n = (c.toNat : Int)) (t : TypeId) : ∀ j (h : j < [c].length), (w.alloc (.cells #[.int .u8 n] t)).cell? ((⟨w.heap.size, 0, none⟩ : Addr).add j) = some (.int .u8 [c][j].toNat) := by
  intro j hj
  simp at hj
  subst hj h
  simp [Addr.add]

theorem by8_get (l : List UInt8) (j : Nat) (hj : j < l.length) : (by8 l)[j]? = some (.int .u8 l[j].toNat) := by
  unfold by8; rw [List.getElem?_map, List.getElem?_eq_getElem hj]; rfl
theorem addr_add (g j : Nat) : (⟨g, 0, none⟩ : Addr).add j = ⟨g, j, none⟩ := by
  unfold Addr.add; split
  · rename_i h; subst h; rfl
  · simp
/-- Bytes that the call owns, as a string. -/
theorem conv_own {w : World} {base : Nat} {v : Value} {l : List UInt8} (h : w.ownsRow base 5 1 v l.length (by8 l)) :
    (convert 34 9 v).run Try.prog w = .ok (.string ⟨l.toArray⟩) w := by
  have h' := h
  obtain ⟨_, h⟩ := h
  rcases h with ⟨rfl, h0⟩ | ⟨g, cap, cur, rfl, _⟩
  · have hl : l = [] := List.eq_nil_of_length_eq_zero h0
    subst hl
    have := run_convert_bytes_back (P := Try.prog) w 34 9 5 default 0 [] Try.underlying34 Try.underlying5 Try.underlying9 (fun j hj => absurd hj (by simp))
    rw [run_convert_bytes_string w _ _ _ none 0 0 Try.underlying34 Try.underlying5 Try.underlying9]
    rfl
  · exact run_convert_bytes_back (P := Try.prog) w 34 9 5 _ cap l Try.underlying34 Try.underlying5 Try.underlying9 (fun j hj => by
      have := h'.cellAt j (by omega)
      rw [by8_get l j hj] at this
      rw [addr_add]; exact this)
theorem or128 : ∀ c : Nat, c < 256 → c ||| 128 = c % 128 + 128 := by decide +kernel
theorem put_byte (z : Nat) : bits .or .u8 ((z : Int) % 256) 128 = ((UInt8.ofNat (z % 128 + 128)).toNat : Int) := by
  rw [show ((z : Int) % 256) = ((z % 256 : Nat) : Int) by simp, show (128 : Int) = ((128 : Nat) : Int) from rfl, u8_or_nat _ _ (Nat.mod_lt _ (by omega)) (by omega), or128 _ (Nat.mod_lt _ (by omega)), Uv.ofNat_toNat (by omega)]
  congr 1; omega
theorem last_byte (z : Nat) (h : z < 128) : (z : Int) = ((UInt8.ofNat z).toNat : Int) := by rw [Uv.ofNat_toNat (by omega)]
theorem below_app {W w w1 : World} {b : Nat} {v : Value} {e : TypeId} {size n : Nat} {xs : List Value} {o : Obj} (hb : Below b W w) (hbs : b ≤ w.heap.size) (hown : w.ownsRow b e size v n xs) (hg : (w.alloc o).grownBy w1 v.ownBlock) : Below b W w1 := by
  refine (hb.alloc hbs o).grown hg (by simp; omega) ?_
  intro k hk
  obtain ⟨_, h⟩ := hown
  rcases h with ⟨rfl, _⟩ | ⟨g, cap, cur, rfl, hg', _⟩
  · simp [Value.ownBlock] at hk
  · simp [Value.ownBlock] at hk; omega

theorem put_any (x : Nat) (hx : (x : Int) ≤ 18446744073709551615) (w : World) :
    Calls Try.prog 18 #[.int .u64 x] w fun e w' => e = .returned (.string ⟨(Uv.put x).toArray⟩) ∧ Below w.heap.size w w' := by
  go_enter Try.func18, Try.ntmps18
  go_wp2
  go_loopw [0, 3] (fun y v wr => ∃ (z : Nat) (l : List UInt8), y = .int .u64 z ∧ (z : Int) ≤ 18446744073709551615 ∧ l ++ Uv.put z = Uv.put x ∧ wr.ownsRow w.heap.size 5 1 v l.length (by8 l) ∧ Below w.heap.size w wr)
    (fun y _ _ => (intOf y).toNat)
  case atStart => exact ⟨x, [], rfl, by omega, rfl, World.ownsRow_nil _ _ _ _, Below.refl _ _⟩
  case round =>
    obtain ⟨z, l, rfl, hz, hl, hown, hbel⟩ := hrel
    have hsz := hbel.size
    have hll : l.length ≤ 10 := by
      have h1 := congrArg List.length hl
      have h2 := Uv.put_len x (by omega)
      simp at h1; omega
    have HL := Lib.hid hl
    have HB := Lib.hid hbel
    have HO := Lib.hid hown
    clear hl hbel
    by_cases hlt : (128 : Int) ≤ z
    · go_wp2_with (at_builtin; refine app_u8 _ rfl _ _ rfl w.heap.size _ l [UInt8.ofNat (z % 128 + 128)] ⟨wr.heap.size, 0, none⟩ 1 1 rfl (hown.alloc _) rfl rfl (one_cell _ _ _ (put_byte z) _) (by omega) (by simp; omega) ?_; intro v' w1 hown1 hg1 _)
      go_roundw
      case rel =>
        refine ⟨z / 128, l ++ [UInt8.ofNat (z % 128 + 128)], by simp, by omega, ?_, hown1, below_app HB.out hsz HO.out hg1⟩
        rw [← HL.out, List.append_assoc, Uv.put_step z (by omega) (by omega)]; rfl
      case measure => simp [intOf]; omega
    · have hfin : Hid (l ++ [UInt8.ofNat z] = Uv.put x) := show _ = _ by rw [← HL.out, Uv.put_small z (by omega)]
      go_wp2_with (at_builtin; refine app_u8 _ rfl _ _ rfl w.heap.size _ l [UInt8.ofNat z] ⟨wr.heap.size, 0, none⟩ 1 1 rfl (hown.alloc _) rfl rfl (one_cell _ _ _ (last_byte z (by omega)) _) (by omega) (by simp; omega) ?_; intro v' w1 hown1 hg1 _; have hcv := conv_own hown1)
      go_ret
      exact ⟨by rw [← hfin.out]; rfl, below_app HB.out hsz HO.out hg1⟩

theorem put_byte' (z : Nat) (h : z < 18446744073709551616) : bits .or .u8 (bits .and .u64 (z : Int) 127 % 256) 128 = ((UInt8.ofNat (z % 128 + 128)).toNat : Int) := by
  rw [show (127 : Int) = ((127 : Nat) : Int) from rfl, u64_and_nat z 127 h (by omega), nat_mask7, show ((z % 128 : Nat) : Int) % 256 = ((z % 128 : Nat) : Int) by omega,
    show (128 : Int) = ((128 : Nat) : Int) from rfl, u8_or_nat _ _ (by omega) (by omega), or128 _ (by omega), Uv.ofNat_toNat (by omega)]
  congr 1; omega
theorem put_ref_any (x : Nat) (hx : (x : Int) ≤ 18446744073709551615) (w : World) :
    Calls Try.prog 22 #[.int .u64 x] w fun e w' => e = .returned (.string ⟨(Uv.put x).toArray⟩) ∧ Below w.heap.size w w' := by
  go_enter Try.func22, Try.ntmps22
  go_wp2
  go_loopw [0, 3] (fun y v wr => ∃ (z : Nat) (l : List UInt8), y = .int .u64 z ∧ (z : Int) ≤ 18446744073709551615 ∧ l ++ Uv.put z = Uv.put x ∧ wr.ownsRow w.heap.size 5 1 v l.length (by8 l) ∧ Below w.heap.size w wr)
    (fun y _ _ => (intOf y).toNat)
  case atStart => exact ⟨x, [], rfl, by omega, rfl, World.ownsRow_nil _ _ _ _, Below.refl _ _⟩
  case round =>
    obtain ⟨z, l, rfl, hz, hl, hown, hbel⟩ := hrel
    have hsz := hbel.size
    have hll : l.length ≤ 10 := by
      have h1 := congrArg List.length hl
      have h2 := Uv.put_len x (by omega)
      simp at h1; omega
    have HL := Lib.hid hl
    have HB := Lib.hid hbel
    have HO := Lib.hid hown
    clear hl hbel
    by_cases hlt : (128 : Int) ≤ z
    · go_wp2_with (at_builtin; refine app_u8 _ rfl _ _ rfl w.heap.size _ l [UInt8.ofNat (z % 128 + 128)] ⟨wr.heap.size, 0, none⟩ 1 1 rfl (hown.alloc _) rfl rfl (one_cell _ _ _ (put_byte' z (by omega)) _) (by omega) (by simp; omega) ?_; intro v' w1 hown1 hg1 _)
      go_roundw
      case rel =>
        refine ⟨z / 128, l ++ [UInt8.ofNat (z % 128 + 128)], by simp, by omega, ?_, hown1, below_app HB.out hsz HO.out hg1⟩
        rw [← HL.out, List.append_assoc, Uv.put_step z (by omega) (by omega)]; rfl
      case measure => simp [intOf]; omega
    · have hfin : Hid (l ++ [UInt8.ofNat z] = Uv.put x) := show _ = _ by rw [← HL.out, Uv.put_small z (by omega)]
      go_wp2_with (at_builtin; refine app_u8 _ rfl _ _ rfl w.heap.size _ l [UInt8.ofNat z] ⟨wr.heap.size, 0, none⟩ 1 1 rfl (hown.alloc _) rfl rfl (one_cell _ _ _ (last_byte z (by omega)) _) (by omega) (by simp; omega) ?_; intro v' w1 hown1 hg1 _; have hcv := conv_own hown1)
      go_ret
      exact ⟨by rw [← hfin.out]; rfl, below_app HB.out hsz HO.out hg1⟩

theorem drop_at (s : ByteArray) (k : Nat) (h : k < s.size) : s.data.toList.drop k = s[k] :: s.data.toList.drop (k + 1) := by
  rw [List.drop_eq_getElem_cons (by simpa using h)]; rfl
theorem acc_eq {a k n : Nat} (hb : n < 256) (ha : a < 128 ^ k) (hk : k < 10) (h9 : k = 9 → n % 128 ≤ 1) :
    bits .or .u64 (a : Int) (IntKind.u64.wrap (IntKind.u64.wrap (bits .and .u8 (n : Int) 127) * 2 ^ (7 * k))) = ((a + n % 128 * 128 ^ k : Nat) : Int) := by
  rw [show (127 : Int) = ((127 : Nat) : Int) from rfl, u8_and_nat _ _ (by omega) (by omega), nat_mask7, IntWalk.u64_in ((n % 128 : Nat) : Int) (by omega), IntKind.wrap_u64]
  rw [show ((n % 128 : Nat) : Int) * 2 ^ (7 * k) % 18446744073709551616 = ((n % 128 * 2 ^ (7 * k) % 18446744073709551616 : Nat) : Int) by simp]
  rw [u64_or_nat _ _ (Uv.acc_lt (by omega) ha) (Nat.mod_lt _ (by omega)), Uv.join ha hk (by omega) h9]
theorem acc_eq9 {a : Nat} (ha : a < 128 ^ 9) : bits .or .u64 (a : Int) (IntKind.u64.wrap (IntKind.u64.wrap (bits .and .u8 1 127) * 9223372036854775808)) = ((a + 1 % 128 * 128 ^ 9 : Nat) : Int) := by
  have := acc_eq (k := 9) (n := 1) (by omega) ha (by omega) (by omega)
  rw [show ((2 : Int) ^ (7 * 9)) = 9223372036854775808 by decide] at this
  exact this
theorem ret_uv {a b c d : Int} {t : Bool} (h : a = b) (h' : c = d) : Ending.returned (.tuple #[.int .u64 a, .int .i64 c, .bool t]) = .returned (.tuple #[.int .u64 b, .int .i64 d, .bool t]) := by rw [h, h']
set_option maxHeartbeats 600000 in
theorem uv_any (s : ByteArray) (hs : s.size ≤ 9223372036854775807) (w : World) :
    Calls Try.prog 34 #[.string s] w fun e w' => e = .returned (.tuple #[.int .u64 (Uv.uvX s.data.toList), .int .i64 (Uv.uvN s.data.toList), .bool (Uv.uvB s.data.toList)]) ∧ w = w' := by
  go_enter Try.func34, Try.ntmps34
  go_wp2
  all_goals
    go_loop [5, 11] (fun x i => ∃ k a : Nat, k ≤ s.size ∧ k ≤ 10 ∧ i = .int .i64 k ∧ x = .int .u64 a ∧ a < 128 ^ k ∧ Uv.rd k a (s.data.toList.drop k) = Uv.rd 0 0 s.data.toList) (fun _ i => 10 - (intOf i).toNat)
    case atStart => exact ⟨0, 0, Nat.zero_le _, by omega, rfl, rfl, by simp, rfl⟩
    case round =>
      obtain ⟨k, a, hk, hk10, rfl, rfl, ha, hr⟩ := hrel
      have HA := Lib.hid ha
      have HR := Lib.hid hr
      clear ha hr
      by_cases hlt : k < s.size ∧ k < 10
      · obtain ⟨h1, h2⟩ := hlt
        have hb0 := s[k].toNat_lt
        obtain ⟨n, hn⟩ : ∃ n, s[k].toNat = n := ⟨_, rfl⟩
        have hb : (n : Int) ≤ 255 := by omega
        clear hb0
        have ha64 : (a : Int) ≤ 18446744073709551615 := by have := Uv.acc_lt (by omega) HA.out; omega
        have H1 := Lib.hid h1
        have HD : Hid (∃ c : UInt8, c.toNat = n ∧ s.data.toList.drop k = c :: s.data.toList.drop (k + 1)) := ⟨s[k], hn, drop_at s k h1⟩
        by_cases h9 : k = 9
        · subst h9
          by_cases g1 : (1 : Int) < n
          · have hd : Uv.rd 0 0 s.data.toList = none := by
              obtain ⟨c, hc, hcd⟩ := HD.out
              rw [← HR.out, hcd]; exact Uv.rd_nine _ _ (by omega)
            have HN := Lib.hid hd
            clear hd
            go_wp2
            go_ret3
            refine ⟨?_, rfl⟩
            rw [(Uv.uv_none HN.out).1, (Uv.uv_none HN.out).2.1, (Uv.uv_none HN.out).2.2]; rfl
          · by_cases h0 : n = 0
            · have hd : Uv.rd 0 0 s.data.toList = none := by
                obtain ⟨c, hc, hcd⟩ := HD.out
                rw [← HR.out, hcd]; exact Uv.rd_zero 9 a _ h2 (by omega) (by omega) (by omega)
              have HN := Lib.hid hd
              clear hd
              subst h0
              go_wp2
              go_ret3
              refine ⟨?_, rfl⟩
              rw [(Uv.uv_none HN.out).1, (Uv.uv_none HN.out).2.1, (Uv.uv_none HN.out).2.2]; rfl
            · obtain rfl : n = 1 := by omega
              have hd : Uv.rd 0 0 s.data.toList = some (a + 1 % 128 * 128 ^ 9, 9 + 1) := by
                obtain ⟨c, hc, hcd⟩ := HD.out
                have h := Uv.rd_last (b := c) 9 a (s.data.toList.drop (9 + 1)) h2 (by omega) (by omega) (by omega)
                rw [hc] at h
                rw [← HR.out, hcd]; exact h
              have HN := Lib.hid hd
              clear hd
              go_wp2
              go_ret3
              refine ⟨?_, rfl⟩
              rw [(Uv.uv_some HN.out).1, (Uv.uv_some HN.out).2.1, (Uv.uv_some HN.out).2.2]
              exact ret_uv (acc_eq9 HA.out) rfl
        · by_cases h128 : (128 : Int) ≤ n
          · go_wp2
            go_round
            case rel =>
              refine ⟨k + 1, a + n % 128 * 128 ^ k, by have := H1.out; omega, by omega, by go_num, int_u64 (acc_eq (by omega) HA.out h2 (by omega)), Uv.join_lt HA.out (Nat.mod_lt _ (by omega)), ?_⟩
              obtain ⟨c, hc, hcd⟩ := HD.out
              rw [← HR.out, hcd, Uv.rd_more k a _ h2 (by omega) (by omega), hc]
            case measure => simp [intOf]; omega
          · by_cases h0 : n = 0 ∧ 0 < k
            · have hd : Uv.rd 0 0 s.data.toList = none := by
                obtain ⟨c, hc, hcd⟩ := HD.out
                rw [← HR.out, hcd]; exact Uv.rd_zero k a _ h2 (by omega) (by omega) (by omega)
              have HN := Lib.hid hd
              clear hd
              go_wp2
              all_goals
                go_ret3
                refine ⟨?_, rfl⟩
                rw [(Uv.uv_none HN.out).1, (Uv.uv_none HN.out).2.1, (Uv.uv_none HN.out).2.2]; rfl
            · have hd : Uv.rd 0 0 s.data.toList = some (a + n % 128 * 128 ^ k, k + 1) := by
                obtain ⟨c, hc, hcd⟩ := HD.out
                rw [← HR.out, hcd, ← hc]; exact Uv.rd_last k a _ h2 (by omega) (by omega) (by omega)
              have HN := Lib.hid hd
              clear hd
              by_cases h00 : n = 0
              · subst h00
                go_wp2
                go_ret3
                refine ⟨?_, rfl⟩
                rw [(Uv.uv_some HN.out).1, (Uv.uv_some HN.out).2.1, (Uv.uv_some HN.out).2.2]
                exact ret_uv (acc_eq (n := 0) (by omega) HA.out h2 (by omega)) (by omega)
              · clear h0
                go_wp2
                go_ret3
                refine ⟨?_, rfl⟩
                rw [(Uv.uv_some HN.out).1, (Uv.uv_some HN.out).2.1, (Uv.uv_some HN.out).2.2]
                exact ret_uv (acc_eq (by omega) HA.out h2 (by omega)) (by omega)
      · have hd : Uv.rd 0 0 s.data.toList = none := by
          rw [← HR.out]
          by_cases hk : k = 10
          · rw [hk]; exact Uv.rd_ten _ _
          · rw [List.drop_of_length_le (by simp; omega)]; rfl
        have HN := Lib.hid hd
        clear hd
        go_wp2
        go_ret3
        refine ⟨?_, rfl⟩
        rw [(Uv.uv_none HN.out).1, (Uv.uv_none HN.out).2.1, (Uv.uv_none HN.out).2.2]; rfl
theorem acc_ref {a k n : Nat} (hb : n < 256) (ha : a < 128 ^ k) (hk : k < 10) (h9 : k = 9 → n % 128 ≤ 1) :
    bits .or .u64 (a : Int) (IntKind.u64.wrap (bits .and .u64 (n : Int) 127 * 2 ^ (7 * k))) = ((a + n % 128 * 128 ^ k : Nat) : Int) := by
  rw [show (127 : Int) = ((127 : Nat) : Int) from rfl, u64_and_nat _ _ (by omega) (by omega), nat_mask7, IntKind.wrap_u64]
  rw [show ((n % 128 : Nat) : Int) * 2 ^ (7 * k) % 18446744073709551616 = ((n % 128 * 2 ^ (7 * k) % 18446744073709551616 : Nat) : Int) by simp]
  rw [u64_or_nat _ _ (Uv.acc_lt (by omega) ha) (Nat.mod_lt _ (by omega)), Uv.join ha hk (by omega) h9]
theorem acc_ref9 {a : Nat} (ha : a < 128 ^ 9) : bits .or .u64 (a : Int) (IntKind.u64.wrap (bits .and .u64 1 127 * 9223372036854775808)) = ((a + 1 % 128 * 128 ^ 9 : Nat) : Int) := by
  have := acc_ref (k := 9) (n := 1) (by omega) ha (by omega) (by omega)
  rw [show ((2 : Int) ^ (7 * 9)) = 9223372036854775808 by decide] at this
  exact this
set_option maxHeartbeats 600000 in
theorem uv_ref_any (s : ByteArray) (hs : s.size ≤ 9223372036854775807) (w : World) :
    Calls Try.prog 35 #[.string s] w fun e w' => e = .returned (.tuple #[.int .u64 (Uv.uvX s.data.toList), .int .i64 (Uv.uvN s.data.toList), .bool (Uv.uvB s.data.toList)]) ∧ w = w' := by
  go_enter Try.func35, Try.ntmps35
  go_wp2
  all_goals
    go_loop [5, 6] (fun x i => ∃ k a : Nat, k ≤ s.size ∧ k ≤ 10 ∧ i = .int .i64 k ∧ x = .int .u64 a ∧ a < 128 ^ k ∧ Uv.rd k a (s.data.toList.drop k) = Uv.rd 0 0 s.data.toList) (fun _ i => 10 - (intOf i).toNat)
    case atStart => exact ⟨0, 0, Nat.zero_le _, by omega, rfl, rfl, by simp, rfl⟩
    case round =>
      obtain ⟨k, a, hk, hk10, rfl, rfl, ha, hr⟩ := hrel
      have HA := Lib.hid ha
      have HR := Lib.hid hr
      clear ha hr
      by_cases hlt : k < s.size ∧ k < 10
      · obtain ⟨h1, h2⟩ := hlt
        have hb0 := s[k].toNat_lt
        obtain ⟨n, hn⟩ : ∃ n, s[k].toNat = n := ⟨_, rfl⟩
        have hb : (n : Int) ≤ 255 := by omega
        clear hb0
        have ha64 : (a : Int) ≤ 18446744073709551615 := by have := Uv.acc_lt (by omega) HA.out; omega
        have H1 := Lib.hid h1
        have HD : Hid (∃ c : UInt8, c.toNat = n ∧ s.data.toList.drop k = c :: s.data.toList.drop (k + 1)) := ⟨s[k], hn, drop_at s k h1⟩
        by_cases h9 : k = 9
        · subst h9
          by_cases g1 : (1 : Int) < n
          · have hd : Uv.rd 0 0 s.data.toList = none := by
              obtain ⟨c, hc, hcd⟩ := HD.out
              rw [← HR.out, hcd]; exact Uv.rd_nine _ _ (by omega)
            have HN := Lib.hid hd
            clear hd
            go_wp2
            go_ret3
            refine ⟨?_, rfl⟩
            rw [(Uv.uv_none HN.out).1, (Uv.uv_none HN.out).2.1, (Uv.uv_none HN.out).2.2]; rfl
          · by_cases h0 : n = 0
            · have hd : Uv.rd 0 0 s.data.toList = none := by
                obtain ⟨c, hc, hcd⟩ := HD.out
                rw [← HR.out, hcd]; exact Uv.rd_zero 9 a _ h2 (by omega) (by omega) (by omega)
              have HN := Lib.hid hd
              clear hd
              subst h0
              go_wp2
              go_ret3
              refine ⟨?_, rfl⟩
              rw [(Uv.uv_none HN.out).1, (Uv.uv_none HN.out).2.1, (Uv.uv_none HN.out).2.2]; rfl
            · obtain rfl : n = 1 := by omega
              have hd : Uv.rd 0 0 s.data.toList = some (a + 1 % 128 * 128 ^ 9, 9 + 1) := by
                obtain ⟨c, hc, hcd⟩ := HD.out
                have h := Uv.rd_last (b := c) 9 a (s.data.toList.drop (9 + 1)) h2 (by omega) (by omega) (by omega)
                rw [hc] at h
                rw [← HR.out, hcd]; exact h
              have HN := Lib.hid hd
              clear hd
              go_wp2
              go_ret3
              refine ⟨?_, rfl⟩
              rw [(Uv.uv_some HN.out).1, (Uv.uv_some HN.out).2.1, (Uv.uv_some HN.out).2.2]
              exact ret_uv (acc_ref9 HA.out) rfl
        · by_cases h128 : (128 : Int) ≤ n
          · go_wp2
            go_round
            case rel =>
              refine ⟨k + 1, a + n % 128 * 128 ^ k, by have := H1.out; omega, by omega, by go_num, int_u64 (acc_ref (by omega) HA.out h2 (by omega)), Uv.join_lt HA.out (Nat.mod_lt _ (by omega)), ?_⟩
              obtain ⟨c, hc, hcd⟩ := HD.out
              rw [← HR.out, hcd, Uv.rd_more k a _ h2 (by omega) (by omega), hc]
            case measure => simp [intOf]; omega
          · by_cases h0 : n = 0 ∧ 0 < k
            · have hd : Uv.rd 0 0 s.data.toList = none := by
                obtain ⟨c, hc, hcd⟩ := HD.out
                rw [← HR.out, hcd]; exact Uv.rd_zero k a _ h2 (by omega) (by omega) (by omega)
              have HN := Lib.hid hd
              clear hd
              go_wp2
              all_goals
                go_ret3
                refine ⟨?_, rfl⟩
                rw [(Uv.uv_none HN.out).1, (Uv.uv_none HN.out).2.1, (Uv.uv_none HN.out).2.2]; rfl
            · have hd : Uv.rd 0 0 s.data.toList = some (a + n % 128 * 128 ^ k, k + 1) := by
                obtain ⟨c, hc, hcd⟩ := HD.out
                rw [← HR.out, hcd, ← hc]; exact Uv.rd_last k a _ h2 (by omega) (by omega) (by omega)
              have HN := Lib.hid hd
              clear hd
              by_cases h00 : n = 0
              · subst h00
                go_wp2
                go_ret3
                refine ⟨?_, rfl⟩
                rw [(Uv.uv_some HN.out).1, (Uv.uv_some HN.out).2.1, (Uv.uv_some HN.out).2.2]
                exact ret_uv (acc_ref (n := 0) (by omega) HA.out h2 (by omega)) (by omega)
              · clear h0
                go_wp2
                all_goals
                  go_ret3
                  refine ⟨?_, rfl⟩
                  rw [(Uv.uv_some HN.out).1, (Uv.uv_some HN.out).2.1, (Uv.uv_some HN.out).2.2]
                  exact ret_uv (acc_ref (by omega) HA.out h2 (by omega)) (by omega)
      · have hd : Uv.rd 0 0 s.data.toList = none := by
          rw [← HR.out]
          by_cases hk : k = 10
          · rw [hk]; exact Uv.rd_ten _ _
          · rw [List.drop_of_length_le (by simp; omega)]; rfl
        have HN := Lib.hid hd
        clear hd
        by_cases h1 : k < s.size
        · go_wp2
          go_ret3
          refine ⟨?_, rfl⟩
          rw [(Uv.uv_none HN.out).1, (Uv.uv_none HN.out).2.1, (Uv.uv_none HN.out).2.2]; rfl
        · go_wp2
          go_ret3
          refine ⟨?_, rfl⟩
          rw [(Uv.uv_none HN.out).1, (Uv.uv_none HN.out).2.1, (Uv.uv_none HN.out).2.2]; rfl
/-- '[]byte(s)': a new block. -/
theorem bytes_of (s : ByteArray) (w : World) : ∃ (C : Array Value) (cap : Nat), s.size ≤ C.size ∧ (∀ i (h : i < s.size), C[i]? = some (.int .u8 s[i].toNat)) ∧
    (convert 9 34 (.string s)).run Try.prog w = .ok (.slice (some ⟨w.heap.size, 0, none⟩) s.size cap) (w.drew.alloc (.cells C 5 (C.size, C.size + 1))) := by
  refine ⟨bytesRow s (grownCap w s.size 0 5), grownCap w s.size 0 5, ?_, fun i h => bytesRow_at s _ i h, run_bytes_of_string (P := Try.prog) w 9 34 5 s Try.underlying9 Try.underlying34 Try.underlying5⟩
  rcases Nat.lt_or_ge (bytesRow s (grownCap w s.size 0 5)).size s.size with h | h
  · have := bytesRow_at s (grownCap w s.size 0 5) _ h
    simp at this
  · exact h
theorem bytes_back (w : World) (a : Addr) (cap : Nat) (l : List UInt8) (hc : ∀ j (hj : j < l.length), w.cell? (a.add j) = some (.int .u8 (l[j].toNat : Int))) :
    (convert 34 9 (.slice (some a) l.length cap)).run Try.prog w = .ok (.string ⟨l.toArray⟩) w :=
  run_convert_bytes_back w _ _ 5 a cap l Try.underlying34 Try.underlying5 Try.underlying9 hc
/-- The hash's contracts at whatever number. -/
theorem hash_int (h : Int) (s : ByteArray) (h0 : 0 ≤ h) (hh : h ≤ 18446744073709551615) (hs : s.size ≤ 9223372036854775807) (w : World) :
    Calls Try.prog 33 #[.int .u64 h, .string s] w fun e w' => e = .returned (.int .u64 (Hs.hash h.toNat s.data.toList)) ∧ w' = w := by
  obtain ⟨n, rfl⟩ := Int.eq_ofNat_of_zero_le h0
  exact (hash_any n s hh hs w).mono fun e w' ⟨h1, h2⟩ => ⟨h1, h2.symm⟩
theorem hash_ref_int (h : Int) (s : ByteArray) (h0 : 0 ≤ h) (hh : h ≤ 18446744073709551615) (hs : s.size ≤ 9223372036854775807) (w : World) :
    Calls Try.prog 24 #[.int .u64 h, .string s] w fun e w' => e = .returned (.int .u64 (Hs.hash h.toNat s.data.toList)) ∧ w' = w := by
  obtain ⟨n, rfl⟩ := Int.eq_ofNat_of_zero_le h0
  exact (hash_ref_any n s hh hs w).mono fun e w' ⟨h1, h2⟩ => ⟨h1, h2.symm⟩
end Strs
end Go.Proofs.Ytdacgdokbfcgdaa
