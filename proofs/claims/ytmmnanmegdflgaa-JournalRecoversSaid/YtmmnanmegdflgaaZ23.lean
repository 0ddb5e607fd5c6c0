/-
  Plain laws, no program in sight: cut journals, spoilt journals (chapter 42).
  Contract: Round of vmfleetmake.
  Contract: Mix of vmfleetmake.
  Contracts: manage of the law package (chapter 42).
  Plain laws, no program in sight: when a checkpoint describes its registry (chapter 42).
-/
import Derived.Test.YtmmnanmegdflgaaZ19
import Derived.Test.YtmmnanmegdflgaaProg
import Derived.Test.YtmmnanmegdflgaaZ1
import Derived.WalkSpells
import Derived.WalkLawsBesides
import Derived.BigQuiet
import Derived.Deep.QuietTactic
import Derived.Test.YtmmnanmegdflgaaZ22
import Derived.Test.YtmmnanmegdflgaaZ14
namespace Go.Proofs.Ytmmnanmegdflgaa.Jn
set_option linter.unusedVariables false
open Ad Lg Uv
theorem put_one {x : Nat} (h : x < 128) : (put x).length = 1 := by
  unfold put putF; rw [if_neg (by omega)]; rfl
theorem u64_small {x : Int} (h0 : 0 ≤ x) (h : x ≤ 100) : u64 x < 128 := by unfold u64; omega
theorem encN_small : ∀ L : List Int, (∀ x ∈ L, 0 ≤ x ∧ x ≤ 100) → (encN L).length = L.length
  | [], _ => rfl
  | x :: L, h => by
    have ih := encN_small L (fun y hy => h y (by simp [hy]))
    have h1 := h x (by simp)
    unfold encN at ih ⊢
    rw [List.flatMap_cons, List.length_append, ih, put_one (u64_small h1.1 h1.2), List.length_cons]; omega
/-- Tiny operations: a name of one letter, small numbers. -/
structure Tiny (o : Man) : Prop where
  k : 0 ≤ o.k ∧ o.k ≤ 100
  nm : o.nm.size = 1
  ns : ∀ x ∈ nums o, 0 ≤ x ∧ x ≤ 100
theorem Tiny.sml {o : Man} (h : Tiny o) : Sml o := by
  refine ⟨⟨in_small h.k.1 (by have := h.k.2; omega), fun x hx => in_small (h.ns x hx).1 (by have := (h.ns x hx).2; omega), by rw [nm_len, h.nm]; omega⟩, by rw [h.nm]; omega⟩
theorem Tiny.enc {o : Man} (h : Tiny o) : (enc o).length = 12 := by
  have h1 := put_one (u64_small h.k.1 h.k.2)
  have h2 := put_one (x := o.nm.data.toList.length) (by rw [nm_len, h.nm]; omega)
  have h3 := encN_small (nums o) h.ns
  have h4 : (nums o).length = 9 := rfl
  unfold Jn.enc encH
  simp only [List.length_append]
  rw [h1, h2, h3, h4, nm_len, h.nm]
theorem Tiny.sealed {o : Man} (h : Tiny o) {n : Nat} (hn : n < 128) : (sealed n o).length ≤ 40 := by
  have := sealed_len n o (by omega) (by rw [h.enc]; omega)
  rw [h.enc] at this
  omega
theorem Tiny.recl {o : Man} (h : Tiny o) {n : Nat} (hn : n < 128) : (record n o).length = (Jn.sealed n o).length + 1 ∧ (record n o).length ≤ 41 := by
  have h1 := h.sealed hn
  have h2 := put_one (x := (Jn.sealed n o).length) (by omega)
  unfold record
  rw [List.length_append, h2]
  omega
theorem tiny_recs : ∀ (L : List Man) (n : Nat), n + L.length < 128 → (∀ o ∈ L, Tiny o) → (recs n L).length ≤ 41 * L.length
  | [], _, _, _ => by simp [recs]
  | o :: L, n, hn, h => by
    simp only [List.length_cons] at hn ⊢
    have h1 := ((h o (by simp)).recl (n := n) (by omega)).2
    have h2 := tiny_recs L (n + 1) (by omega) (fun o ho => h o (by simp [ho]))
    simp only [recs, List.length_append]
    omega
theorem tiny_fit {L : List Man} (h : ∀ o ∈ L, Tiny o) : ∀ o ∈ L, Fit o := fun o ho => (h o ho).sml.fit
/-- Appending a tiny operation. -/
theorem tiny_app {L : List Man} {o : Man} (hL : ∀ o ∈ L, Tiny o) (ho : Tiny o) (hl : L.length ≤ 60) : appOk (recs 0 L) o = true ∧ appd (recs 0 L) o = recs 0 (L ++ [o]) := by
  have h1 := (parse_all (tiny_fit hL) (by omega)).1
  have h2 : appRec (recs 0 L) o = recs 0 (L ++ [o]) := by
    unfold appRec
    rw [h1, recs_snoc, Nat.zero_add]
  have h3 : appOk (recs 0 L) o = true := by
    unfold appOk
    rw [h2]
    have h5 := tiny_recs (L ++ [o]) 0 (by rw [List.length_append]; simp; omega) (by
      intro x hx
      rcases List.mem_append.1 hx with hx | hx
      · exact hL x hx
      · simp at hx; subst hx; exact ho)
    rw [List.length_append, List.length_singleton] at h5
    exact decide_eq_true (by omega)
  exact ⟨h3, by unfold appd; rw [if_pos h3, h2]⟩
theorem recs_split (L : List Man) (n : Nat) : recs 0 L = recs 0 (L.take n) ++ recs (min n L.length) (L.drop n) := by
  have := recs_app (L.take n) (L.drop n) 0
  rw [List.take_append_drop, List.length_take, Nat.zero_add] at this
  exact this
/-- What follows the records is no record. -/
theorem parse_stop {L : List Man} {t : List UInt8} (hL : ∀ o ∈ L, Fit o) (hl : L.length < 18446744073709551616) (h : nOk t L.length = false) : (parse (recs 0 L ++ t)).1 = L ∧ used (recs 0 L ++ t) = (recs 0 L).length := by
  have h1 := parse_recs L t hL 0 (by omega)
  rw [Nat.zero_add, parse_no h] at h1
  simp only [List.append_nil] at h1
  have h2 : parse (recs 0 L ++ t) = (L, t) := h1
  refine ⟨by rw [h2], ?_⟩
  unfold used
  rw [h2, List.length_append]
  simp only
  omega
/-- A journal that is cut off. -/
theorem parse_cut {L : List Man} (hL : ∀ o ∈ L, Tiny o) (hl : L.length ≤ 60) {at_ n : Nat} (hn : n ≤ L.length) (h1 : (recs 0 (L.take n)).length ≤ at_) (h2 : n < L.length → at_ < (recs 0 (L.take (n + 1))).length) (h3 : at_ ≤ (recs 0 L).length) :
    (parse ((recs 0 L).take at_)).1 = L.take n ∧ used ((recs 0 L).take at_) = (recs 0 (L.take n)).length := by
  have hlt : (L.take n).length = n := by rw [List.length_take]; omega
  have hfit := tiny_fit (L := L.take n) (fun o ho => hL o (List.mem_of_mem_take ho))
  have e : (recs 0 L).take at_ = recs 0 (L.take n) ++ (recs n (L.drop n)).take (at_ - (recs 0 (L.take n)).length) := by
    have := recs_split L n
    rw [Nat.min_eq_left hn] at this
    conv => lhs; rw [this]
    rw [List.take_append, List.take_of_length_le h1]
  rw [e]
  refine parse_stop hfit (by rw [hlt]; omega) ?_
  rw [hlt]
  by_cases hn2 : n < L.length
  · have h4 := h2 hn2
    have h5 : L.drop n = L[n] :: L.drop (n + 1) := List.drop_eq_getElem_cons hn2
    have h6 := recs_take (List.getElem?_eq_getElem hn2)
    rw [h6, List.length_append] at h4
    have hlt2 : at_ - (recs 0 (L.take n)).length < (record n L[n]).length := by omega
    have e2 : (recs n (L.drop n)).take (at_ - (recs 0 (L.take n)).length) = (record n L[n]).take (at_ - (recs 0 (L.take n)).length) := by
      rw [h5]
      simp only [recs]
      rw [List.take_append_of_le_length (by omega)]
    rw [e2]
    have ht := hL L[n] (List.getElem_mem hn2)
    refine next_part (n := n) (o := L[n]) (x := (record n L[n]).drop (at_ - (recs 0 (L.take n)).length)) (List.take_append_drop _ _) ?_ ?_
    · intro h
      have := congrArg List.length h
      rw [List.length_drop, List.length_nil] at this
      omega
    · have := ht.sealed (n := n) (by omega)
      omega
  · have h5 : L.drop n = [] := List.drop_of_length_le (by omega)
    rw [h5]
    simp only [recs, List.take_nil]
    exact nOk_nil _
/-- A journal with a record that was spoilt behind its length. -/
theorem parse_spoilt {L : List Man} (hL : ∀ o ∈ L, Tiny o) (hl : L.length ≤ 60) {n : Nat} {o : Man} (ho : L[n]? = some o) {x : List UInt8} (hx : x.length = (Jn.sealed n o).length) (hbad : (opens x).2.2 ≠ 0) :
    (parse (recs 0 (L.take n) ++ (put (Jn.sealed n o).length ++ (x ++ recs (n + 1) (L.drop (n + 1)))))).1 = L.take n := by
  obtain ⟨hn, rfl⟩ := List.getElem?_eq_some_iff.1 ho
  have hlt : (L.take n).length = n := by rw [List.length_take]; omega
  refine (parse_stop (tiny_fit (L := L.take n) (fun o ho => hL o (List.mem_of_mem_take ho))) (by rw [hlt]; omega) ?_).1
  rw [hlt]
  have ht := (hL L[n] (List.getElem_mem hn)).sealed (n := n) (by omega)
  have h1 : dataR (put (Jn.sealed n L[n]).length ++ (x ++ recs (n + 1) (L.drop (n + 1)))) false = (x, recs (n + 1) (L.drop (n + 1)), false) := by
    rw [← hx]; exact dataR_put _ _ (by omega)
  unfold nOk nIs nS
  rw [h1]
  simp only
  rw [decide_eq_false hbad, Bool.false_and, Bool.and_false]
end Go.Proofs.Ytmmnanmegdflgaa.Jn

namespace Go.Proofs.Ytmmnanmegdflgaa
open Go.RowKit
set_option linter.unusedVariables false
set_option maxRecDepth 100000
namespace Mk
/-- n modulo k, from 0 on (k at least 1). -/
def round (n k : Int) : Int := n % k
theorem round_bd (n k : Int) (h : 1 ≤ k) : 0 ≤ round n k ∧ round n k < k := ⟨Int.emod_nonneg _ (by omega), Int.emod_lt_of_pos _ (by omega)⟩
theorem ret_int {a b : Int} (h : a = b) : Ending.returned (.int .i64 a) = .returned (.int .i64 b) := by rw [h]
theorem round_any (n k : Int) (hn : -9223372036854775808 ≤ n) (hn' : n ≤ 9223372036854775807) (h1 : 1 ≤ k) (h2 : k ≤ 9223372036854775807) (w : World) :
    Calls Try.prog 18 #[.int .i64 n, .int .i64 k] w fun e w' => e = .returned (.int .i64 (round n k)) ∧ w = w' := by
  have hk0 : ¬ k = 0 := by omega
  by_cases h0 : 0 ≤ n
  · have hr : Hid (n % k = round n k) := rfl
    have hb := (round_bd n k h1).1
    have hb' : ¬ n % k < 0 := by unfold round at hb; omega
    clear hb
    go_enter Try.func18, Try.ntmps18
    go_wp2
    go_ret
    exact ⟨ret_int hr.out, rfl⟩
  · obtain ⟨t, ht⟩ : ∃ t, n.tmod k = t := ⟨_, rfl⟩
    have hneg : t = -((-n) % k) := by
      rw [← ht, ← Int.neg_neg n, Int.neg_tmod, Int.tmod_eq_emod_of_nonneg (by omega)]; simp
    have hb1 : 0 ≤ (-n) % k := Int.emod_nonneg _ (by omega)
    have hb2 : (-n) % k < k := Int.emod_lt_of_pos _ (by omega)
    have hr : round n k = if t < 0 then t + k else t := by
      unfold round
      by_cases hz : (-n) % k = 0
      · rw [if_neg (by omega)]
        have : n % k = 0 := by
          have hd := Int.dvd_of_emod_eq_zero hz
          exact Int.emod_eq_zero_of_dvd ((Int.dvd_neg).1 hd)
        omega
      · rw [if_pos (by omega)]
        have e : n = t + k + k * (-((-n) / k) - 1) := by
          have := Int.mul_ediv_add_emod (-n) k
          rw [Int.mul_sub, Int.mul_neg]; omega
        rw [e, Int.add_mul_emod_self_left, Int.emod_eq_of_lt (by omega) (by omega)]
    have HR := Lib.hid hr
    have ht1 : -t < k := by omega
    have ht2 : t ≤ 0 := by omega
    clear hneg hb1 hb2 hr
    by_cases hs : t < 0
    · go_enter Try.func18, Try.ntmps18
      go_wp2
      go_ret
      exact ⟨ret_int (by rw [HR.out, if_pos hs]), rfl⟩
    · go_enter Try.func18, Try.ntmps18
      go_wp2
      go_ret
      exact ⟨ret_int (by rw [HR.out, if_neg (by omega)]), rfl⟩
end Mk
end Go.Proofs.Ytmmnanmegdflgaa

namespace Go.Proofs.Ytmmnanmegdflgaa
open Go.RowKit
set_option linter.unusedVariables false
set_option maxRecDepth 100000
namespace Mk
theorem and_i64 (a b : Nat) (ha : a < 9223372036854775808) (hb : b < 9223372036854775808) : bits .and .i64 (a : Int) (b : Int) = ((a &&& b : Nat) : Int) := by
  show IntKind.i64.wrap (((BitVec.ofInt 64 (a : Int)) &&& (BitVec.ofInt 64 (b : Int))).toNat : Int) = _
  rw [BitVec.toNat_and, ofInt_u64 a (by omega), ofInt_u64 b (by omega)]
  have h : a &&& b ≤ a := Nat.and_le_left
  exact IntWalk.i64_in _ (by omega)
/-- The generator's value, in the walk's spelling. -/
def seedN (x : Int) : Int := IntKind.u64.wrap (x + 11400714819323198485)
def mixA (s : Int) : Int := IntKind.u64.wrap (bits .xor .u64 s (s / 1073741824) * 13787848793156543929)
def mixB (z : Int) : Int := IntKind.u64.wrap (bits .xor .u64 z (z / 134217728) * 10723151780598845931)
def mixC (z : Int) : Int := bits .xor .u64 z (z / 2147483648)
def nextV (x : Int) : Int := mixC (mixB (mixA (seedN x)))
theorem next_any (x : Int) (w : World) :
    Calls Try.prog 73 #[.int .u64 x] w fun e w' => e = .returned (.tuple #[.int .u64 (nextV x), .int .u64 (seedN x)]) ∧ w = w' := by
  go_enter Try.func73, Try.ntmps73
  go_wp2
  go_ret2
  exact ⟨rfl, rfl⟩
theorem nextV_bd (x : Int) : 0 ≤ nextV x ∧ nextV x ≤ 18446744073709551615 := by
  have hb : ∀ z : Int, 0 ≤ bits .xor .u64 z (z / 2147483648) ∧ bits .xor .u64 z (z / 2147483648) ≤ 18446744073709551615 := by
    intro z
    show 0 ≤ IntKind.u64.wrap _ ∧ IntKind.u64.wrap _ ≤ _
    rw [IntKind.wrap_u64]; omega
  exact hb _
/-- A natural number below 2^63 that is derived from two numbers. -/
def mix (n k : Int) : Nat := (nextV (bits .xor .u64 (IntKind.u64.wrap n) (IntKind.u64.wrap (IntKind.u64.wrap k * 11400714819323198485))) / 2).toNat
theorem mix_lt (n k : Int) : mix n k < 9223372036854775808 := by
  unfold mix; have := nextV_bd (bits .xor .u64 (IntKind.u64.wrap n) (IntKind.u64.wrap (IntKind.u64.wrap k * 11400714819323198485))); omega
theorem mix_any (n k : Int) (w : World) :
    Calls Try.prog 39 #[.int .i64 n, .int .i64 k] w fun e w' => e = .returned (.int .i64 (mix n k)) ∧ w = w' := by
  obtain ⟨x, hx⟩ : ∃ x, nextV (bits .xor .u64 (IntKind.u64.wrap n) (IntKind.u64.wrap (IntKind.u64.wrap k * 11400714819323198485))) = x := ⟨_, rfl⟩
  have hb := nextV_bd (bits .xor .u64 (IntKind.u64.wrap n) (IntKind.u64.wrap (IntKind.u64.wrap k * 11400714819323198485)))
  rw [hx] at hb
  have HM : Hid (((mix n k : Nat) : Int) = x / 2) := show _ = _ by unfold mix; rw [hx]; omega
  have HX := Lib.hid hx
  clear hx
  go_enter Try.func39, Try.ntmps39
  go_wp2_with (go_at_call 73; refine (next_any _ _).mono ?_; rintro e w' ⟨rfl, rfl⟩; rw [HX.out])
  go_ret
  exact ⟨ret_int HM.out.symm, rfl⟩
end Mk
end Go.Proofs.Ytmmnanmegdflgaa

set_option linter.unusedVariables false
set_option linter.unusedSimpArgs false
set_option maxRecDepth 100000
namespace Go.Proofs.Ytmmnanmegdflgaa
open Go.RowKit Go.BigFrame Go.Sort Go.Lib
namespace Jn
open Ad Adm Law39 Lg Lgc Strs
theorem mask1 (x : Nat) : x &&& 1 = x % 2 := Nat.and_one_is_mod x
theorem mask3 (x : Nat) : x &&& 3 = x % 4 := Nat.and_two_pow_sub_one_eq_mod x 2
theorem mask7 (x : Nat) : x &&& 7 = x % 8 := Nat.and_two_pow_sub_one_eq_mod x 3
theorem mask15 (x : Nat) : x &&& 15 = x % 16 := Nat.and_two_pow_sub_one_eq_mod x 4
theorem and_at (v d m k : Nat) (hv : v < 9223372036854775808) (hm : ∀ x : Nat, x &&& m = x % k) (hm2 : m < 9223372036854775808) : bits .and .i64 ((v : Int) / (d : Int)) (m : Int) = ((v / d % k : Nat) : Int) := by
  have h1 : (v : Int) / (d : Int) = ((v / d : Nat) : Int) := by simp
  rw [h1, Mk.and_i64 (v / d) m (Nat.lt_of_le_of_lt (Nat.div_le_self _ _) hv) hm2, hm]
/-- The kind, the first number. -/
def mgK (q : Nat) : Int := if q ≤ 4 then 4 else if q ≤ 10 then 1 else if q ≤ 12 then 2 else if q ≤ 14 then 3 else 0
def mgA (q a : Nat) : Int := if q = 13 ∨ q = 14 then (a : Int) % 2 else a
def mgNm (x : Nat) : ByteArray := ⟨#[UInt8.ofNat (97 + x)]⟩
theorem nm_back (w : World) (g cap x : Nat) (hx : x ≤ 7) (h0 : w.cell? ⟨g, 0, none⟩ = some (.int .u8 (97 + (x : Int)))) :
    (convert 52 9 (.slice (some ⟨g, 0, none⟩) 1 cap)).run Try.prog w = .ok (.string (mgNm x)) w := by
  have := Strs.bytes_back w ⟨g, 0, none⟩ cap [UInt8.ofNat (97 + x)] (fun j hj => by
    have : j = 0 := by simpa using hj
    subst this
    rw [addr_add, h0]
    simp [UInt8.toNat_ofNat']
    omega)
  exact this
def mgOf (q x4 x7 x9 x11 x13 x14 x16 x18 x22 x25 : Nat) : Man :=
  ⟨mgK q, mgNm x4, mgA q x7, x9, ⟨x11, (x11 : Int) + x16, x13, (x14 : Int) / 3⟩, ⟨4 + (x18 : Int), 4 + (x22 : Int), (x25 : Int) != 0⟩⟩
def mgV (v : Nat) : Man := mgOf (v % 16) (v / 16 % 8) (v / 128 % 4) (v / 512 % 4) (v / 2048 % 4) (v / 8192 % 2) (v / 16384 % 4) (v / 65536 % 4) (v / 262144 % 16) (v / 4194304 % 8) (v / 33554432 % 8)
/-- The operation for a number. -/
def mg (n : Int) : Man := mgV (Mk.mix n 81)

set_option maxHeartbeats 4000000 in
theorem manage_any (n : Int) (w : World) : Calls Try.prog 13 #[.int .i64 n] w fun e w' => e = .returned (.agg (manC (mg n))) ∧ Held w w' := by
  have hv := Mk.mix_lt n 81
  obtain ⟨v, hmv⟩ : ∃ v, Mk.mix n 81 = v := ⟨_, rfl⟩
  have HM : Is (mg n) (mgV v) := ⟨by unfold mg; rw [hmv]⟩
  have HMV : Is (Mk.mix n 81) v := ⟨hmv⟩
  rw [hmv] at hv
  clear hmv
  obtain ⟨q, hq⟩ : ∃ q : Nat, v % 16 = q := ⟨_, rfl⟩
  have bq : (q : Int) ≤ 15 := by omega
  have aq : bits .and .i64 (v : Int) 15 = (q : Int) := by
    have := and_at v 1 15 16 hv mask15 (by decide)
    simp only [Int.natCast_one, Int.ediv_one, Nat.div_one] at this
    rw [← hq]; exact this
  obtain ⟨x4, hx4⟩ : ∃ x4 : Nat, v / 16 % 8 = x4 := ⟨_, rfl⟩
  have bx4 : (x4 : Int) ≤ 7 := by omega
  have ax4 : bits .and .i64 ((v : Int) / 16) 7 = (x4 : Int) := by rw [← hx4]; exact and_at v 16 7 8 hv mask7 (by decide)
  obtain ⟨x7, hx7⟩ : ∃ x7 : Nat, v / 128 % 4 = x7 := ⟨_, rfl⟩
  have bx7 : (x7 : Int) ≤ 3 := by omega
  have ax7 : bits .and .i64 ((v : Int) / 128) 3 = (x7 : Int) := by rw [← hx7]; exact and_at v 128 3 4 hv mask3 (by decide)
  obtain ⟨x9, hx9⟩ : ∃ x9 : Nat, v / 512 % 4 = x9 := ⟨_, rfl⟩
  have bx9 : (x9 : Int) ≤ 3 := by omega
  have ax9 : bits .and .i64 ((v : Int) / 512) 3 = (x9 : Int) := by rw [← hx9]; exact and_at v 512 3 4 hv mask3 (by decide)
  obtain ⟨x11, hx11⟩ : ∃ x11 : Nat, v / 2048 % 4 = x11 := ⟨_, rfl⟩
  have bx11 : (x11 : Int) ≤ 3 := by omega
  have ax11 : bits .and .i64 ((v : Int) / 2048) 3 = (x11 : Int) := by rw [← hx11]; exact and_at v 2048 3 4 hv mask3 (by decide)
  obtain ⟨x13, hx13⟩ : ∃ x13 : Nat, v / 8192 % 2 = x13 := ⟨_, rfl⟩
  have bx13 : (x13 : Int) ≤ 1 := by omega
  have ax13 : bits .and .i64 ((v : Int) / 8192) 1 = (x13 : Int) := by rw [← hx13]; exact and_at v 8192 1 2 hv mask1 (by decide)
  obtain ⟨x14, hx14⟩ : ∃ x14 : Nat, v / 16384 % 4 = x14 := ⟨_, rfl⟩
  have bx14 : (x14 : Int) ≤ 3 := by omega
  have ax14 : bits .and .i64 ((v : Int) / 16384) 3 = (x14 : Int) := by rw [← hx14]; exact and_at v 16384 3 4 hv mask3 (by decide)
  obtain ⟨x16, hx16⟩ : ∃ x16 : Nat, v / 65536 % 4 = x16 := ⟨_, rfl⟩
  have bx16 : (x16 : Int) ≤ 3 := by omega
  have ax16 : bits .and .i64 ((v : Int) / 65536) 3 = (x16 : Int) := by rw [← hx16]; exact and_at v 65536 3 4 hv mask3 (by decide)
  obtain ⟨x18, hx18⟩ : ∃ x18 : Nat, v / 262144 % 16 = x18 := ⟨_, rfl⟩
  have bx18 : (x18 : Int) ≤ 15 := by omega
  have ax18 : bits .and .i64 ((v : Int) / 262144) 15 = (x18 : Int) := by rw [← hx18]; exact and_at v 262144 15 16 hv mask15 (by decide)
  obtain ⟨x22, hx22⟩ : ∃ x22 : Nat, v / 4194304 % 8 = x22 := ⟨_, rfl⟩
  have bx22 : (x22 : Int) ≤ 7 := by omega
  have ax22 : bits .and .i64 ((v : Int) / 4194304) 7 = (x22 : Int) := by rw [← hx22]; exact and_at v 4194304 7 8 hv mask7 (by decide)
  obtain ⟨x25, hx25⟩ : ∃ x25 : Nat, v / 33554432 % 8 = x25 := ⟨_, rfl⟩
  have bx25 : (x25 : Int) ≤ 7 := by omega
  have ax25 : bits .and .i64 ((v : Int) / 33554432) 7 = (x25 : Int) := by rw [← hx25]; exact and_at v 33554432 7 8 hv mask7 (by decide)
  have HV : Is (mgV v) (mgOf q x4 x7 x9 x11 x13 x14 x16 x18 x22 x25) := ⟨by unfold mgV; rw [hq, hx4, hx7, hx9, hx11, hx13, hx14, hx16, hx18, hx22, hx25]⟩
  rw [HM.out, HV.out]
  have a1 : bits .and .i64 (x7 : Int) 1 = (x7 : Int) % 2 := by
    have := and_at x7 1 1 2 (by omega) mask1 (by decide)
    simp only [Int.natCast_one, Int.ediv_one, Nat.div_one] at this
    rw [this]; simp
  clear HM HV hq hx4 hx7 hx9 hx11 hx13 hx14 hx16 hx18 hx22 hx25
  go_enter Try.func13, Try.ntmps13
  go_wp2_with fail
  refine (Mk.mix_any _ _ _).mono ?_
  rintro e w' ⟨rfl, rfl⟩
  rw [HMV.out]
  have hcv := fun w g cap => nm_back w g cap x4 (by omega)
  go_wp2
  all_goals
    refine bodyPost_ret (v := .agg (manC (mgOf q x4 x7 x9 x11 x13 x14 x16 x18 x22 x25))) (Bx.res_c Try.results13 rfl (man_load (b := w.heap.size) ?_)) rfl ⟨rfl, (((Held.refl w).alloc _).alloc _).alloc _⟩
    refine Eq.trans (Mem.blk ((((Mem.start w).alloc' (b := w.heap.size) rfl _ _).skip _).skip _) 0 rfl) ?_
    clear hcv aq ax4 ax7 ax9 ax11 ax13 ax14 ax16 ax18 ax22 ax25 a1
    simp only [beq_iff_eq, beq_eq_false_iff_ne, ne_eq, Bool.not_eq_true] at *
    first
      | (have e2 : mgK q = 4 := by (unfold mgK; (repeat' split) <;> omega)
         have e3 : mgA q x7 = x7 := by (unfold mgA; rw [if_neg (show ¬ (q = 13 ∨ q = 14) by omega)])
         unfold mgOf manC; rw [e2, e3])
      | (have e2 : mgK q = 1 := by (unfold mgK; (repeat' split) <;> omega)
         have e3 : mgA q x7 = x7 := by (unfold mgA; rw [if_neg (show ¬ (q = 13 ∨ q = 14) by omega)])
         unfold mgOf manC; rw [e2, e3])
      | (have e2 : mgK q = 2 := by (unfold mgK; (repeat' split) <;> omega)
         have e3 : mgA q x7 = x7 := by (unfold mgA; rw [if_neg (show ¬ (q = 13 ∨ q = 14) by omega)])
         unfold mgOf manC; rw [e2, e3])
      | (have e2 : mgK q = 3 := by (unfold mgK; (repeat' split) <;> omega)
         have e3 : mgA q x7 = (x7 : Int) % 2 := by (unfold mgA; rw [if_pos (show q = 13 ∨ q = 14 by omega)])
         unfold mgOf manC; rw [e2, e3])
      | (have e2 : mgK q = 0 := by (unfold mgK; (repeat' split) <;> omega)
         have e3 : mgA q x7 = x7 := by (unfold mgA; rw [if_neg (show ¬ (q = 13 ∨ q = 14) by omega)])
         unfold mgOf manC; rw [e2, e3])
/-- Small numbers, a name of one letter. -/
theorem mgOf_tiny (q x4 x7 x9 x11 x13 x14 x16 x18 x22 x25 : Nat) (h7 : x7 ≤ 3) (h9 : x9 ≤ 3) (h11 : x11 ≤ 3) (h13 : x13 ≤ 1) (h14 : x14 ≤ 3) (h16 : x16 ≤ 3) (h18 : x18 ≤ 15) (h22 : x22 ≤ 7) : Tiny (mgOf q x4 x7 x9 x11 x13 x14 x16 x18 x22 x25) := by
  refine ⟨?_, rfl, ?_⟩
  · unfold mgOf mgK
    dsimp only
    (repeat' split) <;> omega
  · intro x hx
    have ha : 0 ≤ mgA q x7 ∧ mgA q x7 ≤ 3 := by unfold mgA; split <;> omega
    have hu : 0 ≤ upZ ((x25 : Int) != 0) ∧ upZ ((x25 : Int) != 0) ≤ 1 := by unfold upZ; split <;> omega
    simp only [nums, mgOf, List.mem_cons, List.not_mem_nil, or_false] at hx
    rcases hx with rfl | rfl | rfl | rfl | rfl | rfl | rfl | rfl | rfl <;> omega
theorem mg_tiny (n : Int) : Tiny (mg n) := by
  unfold mg mgV
  exact mgOf_tiny _ _ _ _ _ _ _ _ _ _ _ (by omega) (by omega) (by omega) (by omega) (by omega) (by omega) (by omega) (by omega)
end Jn
end Go.Proofs.Ytmmnanmegdflgaa

namespace Go.Proofs.Ytmmnanmegdflgaa.Jn
set_option linter.unusedVariables false
open Ad Lg Uv
def upR (r : Reg) : Reg := ⟨r.hs.map upC, r.gs⟩
theorem vr_hosts {H : List Cap} (hl : H.length ≤ 6) (hv : ∀ c ∈ H, vh c.m c.c = true) : VR ⟨H, []⟩ :=
  ⟨hl, by simp, List.Pairwise.nil, by simp, hv, by intro i c hi hu; rfl⟩
theorem run_zero (r : Reg) : run r [] = r := rfl
/-- The hosts, all of them up. -/
theorem run_ups {r : Reg} (h : VR r) : ∀ k, k ≤ r.hs.length → recov (upOps 0 (r.hs.take k)) = ⟨(r.hs.take k).map upC, []⟩
  | 0, _ => rfl
  | k + 1, hk => by
    have ih := run_ups h k (by omega)
    have hc : r.hs[k]? = some r.hs[k] := List.getElem?_eq_getElem (by omega)
    have h6 := h.hl
    have hvc : ∀ c ∈ r.hs, vh (upC c).m (upC c).c = true := fun c hc => h.okh c hc
    have hlt : ((r.hs.take k).map upC).length = k := by rw [List.length_map, List.length_take]; omega
    have hv1 : VR ⟨(r.hs.take k).map upC, []⟩ := vr_hosts (by rw [hlt]; omega) (by
      intro c hc
      obtain ⟨x, hx, rfl⟩ := List.mem_map.1 hc
      exact hvc x (List.mem_of_mem_take hx))
    have hm : (r.hs.take (k + 1)).map upC = (r.hs.take k).map upC ++ [upC r.hs[k]] := by
      rw [List.take_succ_eq_append_getElem (by omega), List.map_append]; rfl
    have hv2 : VR ⟨(r.hs.take k).map upC ++ [upC r.hs[k]], []⟩ := vr_hosts (by rw [List.length_append, hlt]; simp; omega) (by
      intro c hc
      rcases List.mem_append.1 hc with hc | hc
      · exact hv1.okh c hc
      · simp at hc; subst hc; exact hvc _ (List.getElem_mem _))
    rw [upOps_at hc]
    unfold recov at ih ⊢
    rw [run_snoc, ih, hm, apply_4 hv1.valid rfl]
    have h1 : hostBad ⟨(r.hs.take k).map upC, []⟩ (hOp k (upC r.hs[k])) = false := by
      unfold hostBad hOp
      simp only [hlt]
      rw [hvc _ (List.getElem_mem _)]
      simp
    have h2 : putH ((r.hs.take k).map upC) (hOp k (upC r.hs[k])).a (hOp k (upC r.hs[k])).c = (r.hs.take k).map upC ++ [upC r.hs[k]] := by
      unfold putH hOp
      simp only
      rw [if_pos (by rw [hlt])]
    unfold setHost
    rw [if_neg (by rw [h1]; decide), if_neg (by simp only [hOp]; omega)]
    simp only at h2 ⊢
    rw [h2, if_pos hv2.valid]
/-- Fewer hosts are up, the guests are the same. -/
theorem vr_less {U H : List Cap} {G : List Pl} (h : VR ⟨U, G⟩) (hl : H.length = U.length) (hv : ∀ c ∈ H, vh c.m c.c = true) (hu : ∀ (i : Nat) (c : Cap), H[i]? = some c → c.up = true → U[i]? = some c) : VR ⟨H, G⟩ := by
  refine ⟨by simp only; rw [hl]; exact h.hl, h.gl, h.srt, fun p hp => by simp only; rw [hl]; exact h.okg p hp, hv, fun i c hi hup => ?_⟩
  exact h.fit i c (hu i c hi hup) hup
theorem vr_front {U : List Cap} {G : List Pl} (h : VR ⟨U, G⟩) (k : Nat) : VR ⟨U, G.take k⟩ := by
  have hs := List.take_sublist k G
  refine ⟨h.hl, Nat.le_trans hs.length_le h.gl, h.srt.sublist hs, fun p hp => h.okg p (hs.subset hp), h.okh, fun i c hi hu => ?_⟩
  have hd : Ds8 (on (G.take k) i) := ds8 (Nat.le_trans hs.length_le h.gl) fun p hp => (okG_parts (h.okg p (hs.subset hp))).2.1
  exact (fits_char (okh_at h hi) hd).2 ((h.fitp hi hu).sub (on_sub hs i) (h.ds i).ok)
theorem addUp {r : Reg} {o : Man} (h1 : addBad r o = false) (h2 : hasG r.gs o.nm = false) (h3 : ¬ 8 ≤ r.gs.length) (h4 : admAt r.hs r.gs o.a o.d = 0) (h5 : admAt r.hs r.gs o.b o.d = 0) : add r o = (⟨r.hs, insG r.gs ⟨o.nm, o.d, o.a, o.b⟩⟩, 0) := by
  unfold add
  rw [if_neg (show ¬ (addBad r o = true) by rw [h1]; decide), if_neg (show ¬ (hasG r.gs o.nm = true) by rw [h2]; decide), if_neg h3, if_neg (show ¬ (admAt r.hs r.gs o.a o.d ≠ 0) by rw [h4]; simp), if_neg (show ¬ (admAt r.hs r.gs o.b o.d ≠ 0) by rw [h5]; simp)]
/-- The guests, one behind the other. -/
theorem run_adds {U : List Cap} {G : List Pl} (h : VR ⟨U, G⟩) (hup : ∀ c ∈ U, c.up = true) : ∀ k, k ≤ G.length → run ⟨U, []⟩ ((G.take k).map gOp) = ⟨U, G.take k⟩
  | 0, _ => rfl
  | k + 1, hk => by
    have ih := run_adds h hup k (by omega)
    have hp : G[k]? = some G[k] := List.getElem?_eq_getElem (by omega)
    obtain ⟨p, hpe⟩ : ∃ p, G[k] = p := ⟨_, rfl⟩
    rw [hpe] at hp
    have hlt : (G.take k).length = k := by rw [List.length_take]; omega
    have hvk := vr_front h k
    have hokp := h.okg p (List.mem_of_getElem? hp)
    obtain ⟨n1, n2, n3, n4, n5⟩ := okG_parts hokp
    have hpos : pos (G.take k) p.nm = k := by
      refine (pos_is hvk.srt (i := k) (by simp only; omega) (fun j hj hjk => ?_) (fun j hj hjk => by simp only at hj; omega)).symm
      simp only at hj ⊢
      rw [List.getElem_take, ← hpe]
      exact List.pairwise_iff_getElem.1 h.srt j k (by simp only; omega) (by simp only; omega) hjk
    have hhas : hasG (G.take k) p.nm = false := by
      unfold hasG
      rw [hpos, List.getElem?_eq_none (by omega)]
    have hins : insG (G.take k) ⟨p.nm, p.d, p.a, p.b⟩ = G.take (k + 1) := by
      unfold insG
      simp only
      rw [hpos, List.take_of_length_le (by omega), List.drop_of_length_le (by omega), List.take_succ_eq_append_getElem (by omega), hpe]
    have hadm : ∀ x : Int, there U.length x = true → p.a = x ∨ p.b = x → admAt U (G.take k) x p.d = 0 := by
      intro x hx hor
      obtain ⟨c, hc, hxi⟩ := hs_at (r := ⟨U, G⟩) hx
      simp only at hc
      rw [admAt_ok hc, hup c (List.mem_of_getElem? hc)]
      refine admit_of (okh_at h hc) (hvk.ds x) n2 ?_
      have h1 := h.fitp (i := x.toNat) hc (hup c (List.mem_of_getElem? hc))
      simp only [hxi] at h1
      have h2 := h1.sub (on_sub (List.take_sublist (k + 1) G) x) (by have := (h.ds x).ok; exact this)
      rw [on_snoc G k p x hp, onOne_two n5, if_pos hor] at h2
      exact h2
    rw [gOps_at hp, run_snoc, ih, apply_1 hvk.valid rfl]
    have h1 : addBad ⟨U, G.take k⟩ (gOp p) = false := by
      unfold addBad gOp
      simp only
      rw [n1, n2, n3, n4, decide_eq_true n5]; rfl
    have hgl := h.gl
    simp only at hgl
    rw [addUp h1 hhas (by simp only; omega) (hadm p.a n3 (.inl rfl)) (hadm p.b n4 (.inr rfl))]
    show (⟨U, insG (G.take k) ⟨p.nm, p.d, p.a, p.b⟩⟩ : Reg) = _
    rw [hins]
/-- The hosts that are down. -/
theorem run_dns {r : Reg} (h : VR r) (hu : VR (upR r)) : ∀ k, k ≤ r.hs.length → run (upR r) (dnOps 0 (r.hs.take k)) = ⟨r.hs.take k ++ (r.hs.drop k).map upC, r.gs⟩
  | 0, _ => rfl
  | k + 1, hk => by
    have ih := run_dns h hu k (by omega)
    obtain ⟨c, hce⟩ : ∃ c, r.hs[k] = c := ⟨_, rfl⟩
    have hc : r.hs[k]? = some c := by rw [List.getElem?_eq_getElem (by omega), hce]
    have h6 := h.hl
    have hlt : (r.hs.take k).length = k := by rw [List.length_take]; omega
    have hd : r.hs.drop k = c :: r.hs.drop (k + 1) := by rw [List.drop_eq_getElem_cons (by omega), hce]
    have ht : r.hs.take (k + 1) = r.hs.take k ++ [c] := by rw [List.take_succ_eq_append_getElem (by omega), hce]
    cases hcu : c.up
    · rw [dn_dn hc hcu, run_snoc, ih]
      have hg : ∀ m, VR ⟨r.hs.take m ++ (r.hs.drop m).map upC, r.gs⟩ := by
        intro m
        refine vr_less hu ?_ ?_ ?_
        · simp only [List.length_append, List.length_map, List.length_take, List.length_drop]
          omega
        · intro x hx
          rcases List.mem_append.1 hx with hx | hx
          · exact h.okh x (List.mem_of_mem_take hx)
          · obtain ⟨y, hy, rfl⟩ := List.mem_map.1 hx
            exact h.okh y (List.mem_of_mem_drop hy)
        · intro i x hi hxu
          rw [List.getElem?_map]
          by_cases hm : i < (r.hs.take m).length
          · rw [List.getElem?_append_left hm, List.getElem?_take] at hi
            have hm2 : i < m := by rw [List.length_take] at hm; omega
            rw [if_pos hm2] at hi
            rw [hi]
            simp only [Option.map_some, upC]
            rw [← hxu]
          · rw [List.getElem?_append_right (by omega), List.getElem?_map, List.getElem?_drop, List.length_take] at hi
            have hm3 : (r.hs.take m).length = min m r.hs.length := List.length_take
            by_cases hle : m ≤ r.hs.length
            · rw [show m + (i - min m r.hs.length) = i by omega] at hi
              exact hi
            · rw [List.getElem?_eq_none (by omega)] at hi
              cases hi
      have hv1 := hg k
      have hv2 := hg (k + 1)
      rw [apply_4 hv1.valid rfl]
      have hlen : (r.hs.take k ++ (r.hs.drop k).map upC).length = r.hs.length := by
        rw [List.length_append, List.length_map, ← List.length_append, List.take_append_drop]
      have h1 : hostBad ⟨r.hs.take k ++ (r.hs.drop k).map upC, r.gs⟩ (hOp k c) = false := by
        unfold hostBad hOp
        simp only [hlen]
        rw [h.okh c (List.mem_of_getElem? hc)]
        simp
        omega
      have h2 : putH (r.hs.take k ++ (r.hs.drop k).map upC) (hOp k c).a (hOp k c).c = r.hs.take (k + 1) ++ (r.hs.drop (k + 1)).map upC := by
        unfold putH hOp
        simp only
        rw [if_neg (by rw [hlen]; omega), Int.toNat_natCast, hd, List.map_cons, List.set_append, if_neg (by omega), hlt, Nat.sub_self, List.set_cons_zero, ht, List.append_assoc]
        rfl
      unfold setHost
      rw [if_neg (by rw [h1]; decide), if_neg (by simp only [hOp]; omega)]
      simp only at h2 ⊢
      rw [h2, if_pos hv2.valid]
    · rw [dn_up hc hcu, ih, hd, ht, List.map_cons, List.append_assoc]
      have : upC c = c := by cases c; simp only at hcu; subst hcu; rfl
      rw [this]; rfl
/-- What operations leave as it was. -/
theorem apply_hs {r : Reg} {o : Man} (hk : o.k = 1) : (apply r o).1.hs = r.hs := by
  cases hv : validR r
  · rw [apply_bad hv]
  · rw [apply_1 hv hk]
    unfold add
    repeat' split
    all_goals rfl
theorem apply_gs {r : Reg} {o : Man} (hk : o.k = 4) : (apply r o).1.gs = r.gs := by
  cases hv : validR r
  · rw [apply_bad hv]
  · rw [apply_4 hv hk]
    unfold setHost
    repeat' split
    all_goals rfl
theorem run_hs : ∀ (L : List Man) (r : Reg), (∀ o ∈ L, o.k = 1) → (run r L).hs = r.hs
  | [], _, _ => rfl
  | o :: L, r, h => by
    show (run (apply r o).1 L).hs = r.hs
    rw [run_hs L _ (fun x hx => h x (by simp [hx])), apply_hs (h o (by simp))]
theorem run_gs : ∀ (L : List Man) (r : Reg), (∀ o ∈ L, o.k = 4) → (run r L).gs = r.gs
  | [], _, _ => rfl
  | o :: L, r, h => by
    show (run (apply r o).1 L).gs = r.gs
    rw [run_gs L _ (fun x hx => h x (by simp [hx])), apply_gs (h o (by simp))]
theorem dnOps_k : ∀ (H : List Cap) (i : Nat), ∀ o ∈ dnOps i H, o.k = 4
  | [], _ => by intro o ho; simp [dnOps] at ho
  | c :: H, i => by
    intro o ho
    unfold dnOps at ho
    split at ho
    · exact dnOps_k H (i + 1) o ho
    · rcases List.mem_cons.1 ho with rfl | ho
      · rfl
      · exact dnOps_k H (i + 1) o ho
theorem ups_all {r : Reg} (h : VR r) : recov (upOps 0 r.hs) = ⟨r.hs.map upC, []⟩ := by
  have := run_ups h r.hs.length (Nat.le_refl _)
  rwa [List.take_length] at this
/-- The checkpoint describes the registry just if its guests fit while all hosts are up. -/
theorem chk_iff {r : Reg} (h : VR r) : recov (chkOps r) = r ↔ VR (upR r) := by
  have h1 : recov (chkOps r) = run (run ⟨r.hs.map upC, []⟩ (r.gs.map gOp)) (dnOps 0 r.hs) := by
    unfold chkOps upG
    rw [← ups_all h]
    unfold recov
    rw [run_app, run_app]
  constructor
  · intro he
    rw [h1] at he
    have h2 := run_gs (dnOps 0 r.hs) (run ⟨r.hs.map upC, []⟩ (r.gs.map gOp)) (dnOps_k _ _)
    rw [he] at h2
    have h3 := run_hs (r.gs.map gOp) ⟨r.hs.map upC, []⟩ (by intro o ho; obtain ⟨p, _, rfl⟩ := List.mem_map.1 ho; rfl)
    have h4 : VR (run ⟨r.hs.map upC, []⟩ (r.gs.map gOp)) := by
      refine vr_run _ (vr_hosts (by rw [List.length_map]; exact h.hl) ?_)
      intro c hc
      obtain ⟨x, hx, rfl⟩ := List.mem_map.1 hc
      exact h.okh x hx
    have h5 : run ⟨r.hs.map upC, []⟩ (r.gs.map gOp) = upR r := by
      cases hr : run ⟨r.hs.map upC, []⟩ (r.gs.map gOp)
      rw [hr] at h2 h3
      simp only at h2 h3
      unfold upR
      rw [h3, h2]
    rw [h5] at h4
    exact h4
  · intro hu
    have h2 := run_adds (U := r.hs.map upC) (G := r.gs) hu (by intro c hc; obtain ⟨x, _, rfl⟩ := List.mem_map.1 hc; rfl) r.gs.length (Nat.le_refl _)
    rw [List.take_length] at h2
    have h3 := run_dns h hu r.hs.length (Nat.le_refl _)
    rw [List.take_length, List.drop_length] at h3
    rw [h1, h2]
    unfold upR at h3
    rw [h3]
    simp
theorem chkOk_iff {r : Reg} (h : VR r) (hg : Grp r) : chkOk r = true ↔ VR (upR r) := by
  rw [chk_same h.valid (by have := chkL_len h hg; omega), sameR_iff, chk_iff h]
theorem chkOk_eq {r : Reg} (h : VR r) (hg : Grp r) : chkOk r = validR (upR r) := by
  rw [Bool.eq_iff_iff, chkOk_iff h hg, vr_iff]
/-- Groups stay small. -/
theorem grp_ins {L : List Pl} {p : Pl} (h : ∀ q ∈ L, q.d.g ≤ 9223372036854775807) (hp : p.d.g ≤ 9223372036854775807) : ∀ q ∈ insG L p, q.d.g ≤ 9223372036854775807 := by
  intro q hq
  unfold insG at hq
  rcases List.mem_append.1 hq with hq | hq
  · exact h q (List.mem_of_mem_take hq)
  · rcases List.mem_cons.1 hq with rfl | hq
    · exact hp
    · exact h q (List.mem_of_mem_drop hq)
theorem grp_apply {r : Reg} {o : Man} (h : Grp r) (ho : o.d.g ≤ 9223372036854775807) : Grp (apply r o).1 := by
  unfold apply
  split
  · split
    · unfold setHost
      repeat' split
      all_goals exact h
    · split
      · unfold add
        repeat' split
        all_goals first | exact h | exact grp_ins h ho
      · split
        · unfold remove
          split
          · exact fun q hq => h q ((List.eraseIdx_sublist _ _).subset hq)
          · exact h
        · split
          · unfold move
            split
            · split
              · rename_i p hp
                split
                · exact h
                · split
                  · exact h
                  · intro q hq
                    simp only at hq
                    rcases List.mem_or_eq_of_mem_set hq with hq | rfl
                    · exact h q hq
                    · rw [turn_d]; exact h p (List.mem_of_getElem? hp)
              · exact h
            · exact h
          · exact h
  · exact h
theorem grp_run (L : List Man) : ∀ {r : Reg}, Grp r → (∀ o ∈ L, o.d.g ≤ 9223372036854775807) → Grp (run r L) := by
  induction L with
  | nil => exact fun h _ => h
  | cons o L ih => exact fun h hL => ih (grp_apply h (hL o (by simp))) (fun x hx => hL x (by simp [hx]))
end Go.Proofs.Ytmmnanmegdflgaa.Jn
