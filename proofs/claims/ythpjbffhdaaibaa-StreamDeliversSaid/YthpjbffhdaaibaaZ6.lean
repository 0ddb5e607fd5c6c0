/-
  Plain laws of compression: the way back, the length, patterns that repeat.
  Plain laws, no program in sight: the stream of segments (chapter 24).
  The shelf's contracts of strings.Builder at this program's numbers (printed by wip/tools/mkbld.py).
  Contracts: what Encode of eventlog calls, and Encode.
  Contracts: Ordered of bare and of the reference.
  Contracts: Encode of eventlog.
  Rows of the call's own, written in place: over any program.
-/
import Derived.Test.YthpjbffhdaaibaaZ5
import Derived.Test.YthpjbffhdaaibaaZ3
import Derived.Shelf.Strings.Builder1
import Derived.Shelf.Strings.BuilderK
import Derived.Test.YthpjbffhdaaibaaZ1
import Derived.Test.YthpjbffhdaaibaaProg
import Derived.Test.YthpjbffhdaaibaaZ2
import Derived.Lib.QuietBelow
import Derived.BigQuiet
import Derived.Outline
import Derived.Deep.RegionHeld3
import Derived.RegionTactic
import Derived.BigRegion
import Derived.Deep.DeepCutAuto
import Derived.IntWalk
set_option linter.unusedVariables false
namespace Go.Proofs.Ythpjbffhdaaibaa
namespace Cp
theorem dec_lits (most : Nat) : ∀ (k : Nat) (l r out : List UInt8), l.length ≤ k → (out.length ≤ most) → dec most (lits l ++ r) out = if out.length + l.length ≤ most then dec most r (out ++ l) else (2001, [])
  | 0, [], r, out, _, h => by rw [lits_nil, List.nil_append, if_pos (by simpa using h), List.append_nil]
  | 0, _ :: _, _, _, h, _ => by simp at h
  | k + 1, l, r, out, hk, h => by
    by_cases h0 : l.length = 0
    · rw [List.eq_nil_of_length_eq_zero h0, lits_nil, List.nil_append, if_pos (by simpa using h), List.append_nil]
    · rw [lits_step (by omega)]
      obtain ⟨n, hn⟩ : ∃ n, n = min 128 l.length := ⟨_, rfl⟩
      rw [← hn, List.cons_append, dec_cons]
      have hc : (UInt8.ofNat (n - 1)).toNat = n - 1 := by simp [UInt8.toNat_ofNat']; omega
      have hlen : ((l.take n ++ lits (l.drop n)) ++ r).length = n + ((lits (l.drop n)).length + r.length) := by
        simp only [List.length_append, List.length_take]; omega
      rw [hc, if_pos (by omega), if_neg (by omega), show n - 1 + 1 = n by omega]
      have e1 : ((l.take n ++ lits (l.drop n)) ++ r).drop n = lits (l.drop n) ++ r := by
        rw [List.append_assoc, List.drop_append_of_le_length (by rw [List.length_take]; omega), List.drop_of_length_le (by rw [List.length_take]; omega), List.nil_append]
      have e2 : ((l.take n ++ lits (l.drop n)) ++ r).take n = l.take n := by
        rw [List.append_assoc, List.take_append_of_le_length (by rw [List.length_take]; omega), List.take_take, Nat.min_self]
      rw [e1, e2]
      by_cases hm : most < out.length + n
      · rw [if_pos hm, if_neg (by omega)]
      · rw [if_neg hm, dec_lits most k (l.drop n) r (out ++ l.take n) (by rw [List.length_drop]; omega) (by rw [List.length_append, List.length_take]; omega)]
        rw [List.length_append, List.length_take, List.length_drop, List.append_assoc, List.take_append_drop]
        by_cases ht : out.length + l.length ≤ most
        · rw [if_pos ht, if_pos (by omega)]
        · rw [if_neg ht, if_neg (by omega)]
theorem lcp_at : ∀ (n : Nat) (a b : List UInt8), n ≤ lcp a b → ∀ k, k < n → ∃ c, a[k]? = some c ∧ b[k]? = some c := by
  intro n a b h k hk
  exact (lcp_next (a := a) (b := b) (n := k) (by omega)).1 (by omega)
theorem copyN_take (s : List UInt8) (i d : Nat) (hd : 1 ≤ d) (hdi : d ≤ i) : ∀ n, i + n ≤ s.length → n ≤ lcp (s.drop i) (s.drop (i - d)) → copyN (s.take i) d n = s.take (i + n)
  | 0, _, _ => rfl
  | n + 1, h1, h2 => by
    rw [copyN, copyN_take s i d hd hdi n (by omega) (by omega)]
    obtain ⟨c, hc1, hc2⟩ := lcp_at (n + 1) _ _ h2 n (by omega)
    rw [List.getElem?_drop] at hc1 hc2
    have hl : (s.take (i + n)).length = i + n := by rw [List.length_take]; omega
    rw [hl, show i + (n + 1) = (i + n) + 1 by omega, List.take_add_one, hc1]
    congr 1
    rw [List.getD_eq_getElem?_getD, List.getElem?_take, if_pos (by omega), show i + n - d = i - d + n by omega, hc2]
    rfl
theorem dec_comp (most : Nat) (s : List UInt8) : ∀ (k i st : Nat), s.length - i ≤ k → st ≤ i → i ≤ s.length → st ≤ most → dec most (comp s i st) (s.take st) = if s.length ≤ most then (0, s) else (2001, []) := by
  have fin : ∀ i st : Nat, s.length ≤ i → st ≤ i → i ≤ s.length → st ≤ most → dec most (comp s i st) (s.take st) = if s.length ≤ most then (0, s) else (2001, []) := by
    intro i st hi hst hi2 hm
    have hl : (s.take st).length = st := by rw [List.length_take]; omega
    rw [comp_end hi, ← List.append_nil (lits (s.drop st)), dec_lits most _ _ _ _ (Nat.le_refl _) (by rw [hl]; exact hm), hl, List.length_drop, dec_nil, List.take_append_drop]
    by_cases h : s.length ≤ most
    · rw [if_pos h, if_pos (by omega)]
    · rw [if_neg h, if_neg (by omega)]
  intro k
  induction k with
  | zero => exact fun i st hk hst hi hm => fin i st (by omega) hst hi hm
  | succ k ih =>
    intro i st hk hst hi hm
    by_cases hil : s.length ≤ i
    · exact fin i st hil hst hi hm
    · by_cases hmt : (mat s i).2 = 0
      · rw [comp_skip (by omega) hmt]
        exact ih (i + 1) st (by omega) (by omega) (by omega) hm
      · rw [comp_match (by omega) hmt]
        have hp := mat_pos hmt
        have hl : (s.take st).length = st := by rw [List.length_take]; omega
        have hlt : ((s.drop st).take (i - st)).length = i - st := by rw [List.length_take, List.length_drop]; omega
        rw [dec_lits most _ _ _ _ (Nat.le_refl _) (by rw [hl]; exact hm), hl, hlt]
        have et : s.take st ++ (s.drop st).take (i - st) = s.take i := by
          rw [← List.take_add, show st + (i - st) = i by omega]
        rw [et]
        by_cases him : st + (i - st) ≤ most
        · rw [if_pos him, dec_cons]
          have hli : (s.take i).length = i := by rw [List.length_take]; omega
          have hc : (UInt8.ofNat (124 + (mat s i).2)).toNat = 124 + (mat s i).2 := by simp [UInt8.toNat_ofNat']; omega
          have hd : (UInt8.ofNat (mat s i).1).toNat = (mat s i).1 := by simp [UInt8.toNat_ofNat']; omega
          rw [hc, if_neg (by omega), if_pos (by omega)]
          simp only
          rw [hd, hli, if_neg (by omega), show 124 + (mat s i).2 - 124 = (mat s i).2 by omega]
          have hlc : (mat s i).2 ≤ lcp (s.drop i) (s.drop (i - (mat s i).1)) := by
            have := hp.2.2.2.2.2.2
            unfold mlen at this; omega
          rw [copyN_take s i _ hp.2.2.2.1 hp.2.2.2.2.2.1 _ (by omega) hlc]
          by_cases hin : most < i + (mat s i).2
          · rw [if_pos hin, if_neg (by omega)]
          · rw [if_neg hin]
            exact ih (i + (mat s i).2) (i + (mat s i).2) (by omega) (Nat.le_refl _) (by omega) (by omega)
        · rw [if_neg him, if_neg (by omega)]
/-- What is compressed comes back, within the least limit that permits it. -/
theorem back (most : Nat) (s : List UInt8) : dec most (compress s) [] = if s.length ≤ most then (0, s) else (2001, []) := by
  have := dec_comp most s s.length 0 0 (by omega) (Nat.le_refl _) (Nat.zero_le _) (Nat.zero_le _)
  exact this
theorem comp_len (s : List UInt8) : ∀ (k i st : Nat), s.length - i ≤ k → st ≤ i → i ≤ s.length → (comp s i st).length ≤ (s.length - st) + (s.length - st + 127) / 128 := by
  have fin : ∀ i st : Nat, s.length ≤ i → st ≤ i → (comp s i st).length ≤ (s.length - st) + (s.length - st + 127) / 128 := by
    intro i st hi hst
    rw [comp_end hi, lits_len _ _ (Nat.le_refl _), List.length_drop]
    exact Nat.le_refl _
  intro k
  induction k with
  | zero => exact fun i st hk hst hi => fin i st (by omega) hst
  | succ k ih =>
    intro i st hk hst hi
    by_cases hil : s.length ≤ i
    · exact fin i st hil hst
    · by_cases hmt : (mat s i).2 = 0
      · rw [comp_skip (by omega) hmt]
        exact ih (i + 1) st (by omega) (by omega) (by omega)
      · rw [comp_match (by omega) hmt]
        have hp := mat_pos hmt
        have h2 := ih (i + (mat s i).2) (i + (mat s i).2) (by omega) (Nat.le_refl _) (by omega)
        rw [List.length_append, lits_len _ _ (Nat.le_refl _), List.length_take, List.length_drop, List.length_cons, List.length_cons]
        omega
theorem compress_len (s : List UInt8) : (compress s).length ≤ s.length + (s.length + 127) / 128 := comp_len s s.length 0 0 (by omega) (Nat.le_refl _) (Nat.zero_le _)
/-! ### a pattern that repeats -/
theorem per_lcp : ∀ (a b : List UInt8), (∀ k, k < a.length → a[k]? = b[k]?) → lcp a b = a.length
  | [], b, _ => by simp [lcp]
  | x :: a, [], h => by have := h 0 (by simp); simp at this
  | x :: a, y :: b, h => by
    have h0 := h 0 (by simp)
    simp at h0
    subst h0
    unfold lcp
    rw [if_pos rfl, per_lcp a b (fun k hk => by have := h (k + 1) (by simpa using hk); simpa using this)]
    rfl
/-- Each byte from p on is the one p places before. -/
def Per (s : List UInt8) (p : Nat) : Prop := ∀ k, p ≤ k → k < s.length → s[k]? = s[k - p]?
theorem per_mat {s : List UInt8} {p i : Nat} (hp : Per s p) (h1 : 1 ≤ p) (h2 : p ≤ 255) (hi : p ≤ i) (h4 : 4 ≤ s.length - i) : (mat s i).2 = min 67 (s.length - i) := by
  have hl : lcp (s.drop i) (s.drop (i - p)) = s.length - i := by
    rw [per_lcp _ _ (fun k hk => ?_), List.length_drop]
    rw [List.length_drop] at hk
    rw [List.getElem?_drop, List.getElem?_drop, hp (i + k) (by omega) (by omega)]
    congr 1; omega
  have hm : mlen s i p = min 67 (s.length - i) := by unfold mlen; rw [hl]
  have hb := best_max s i (min 255 i) p h1 (by omega)
  have hs := best_spec s i (min 255 i)
  unfold mat floor4
  rw [if_neg (by omega)]
  omega
theorem per_rest {s : List UInt8} {p : Nat} (hp : Per s p) (h1 : 1 ≤ p) (h2 : p ≤ 255) : ∀ (k i st : Nat), s.length - i ≤ k → st ≤ i → i ≤ s.length → p ≤ i → i - st ≤ 100 → (comp s i st).length ≤ (if st < i then i - st + 1 else 0) + 2 * ((s.length - i) / 67) + 4 := by
  have fin : ∀ i st : Nat, s.length ≤ i → st ≤ i → i ≤ s.length → i - st ≤ 104 → (comp s i st).length ≤ (if st < i then i - st + 1 else 0) := by
    intro i st hi hst hi2 h100
    rw [comp_end hi, lits_len _ _ (Nat.le_refl _), List.length_drop]
    split <;> omega
  intro k
  induction k with
  | zero =>
    intro i st hk hst hi hpi h100
    have := fin i st (by omega) hst hi (by omega)
    omega
  | succ k ih =>
    intro i st hk hst hi hpi h100
    by_cases h4 : 4 ≤ s.length - i
    · have hm := per_mat hp h1 h2 hpi h4
      rw [comp_match (by omega) (by omega)]
      have h3 := ih (i + (mat s i).2) (i + (mat s i).2) (by omega) (Nat.le_refl _) (by omega) (by omega) (by omega)
      rw [if_neg (by omega)] at h3
      rw [List.length_append, lits_len _ _ (Nat.le_refl _), List.length_take, List.length_drop, List.length_cons, List.length_cons]
      by_cases h67 : s.length - i ≤ 67
      · have hlast : (comp s (i + (mat s i).2) (i + (mat s i).2)).length = 0 := by
          have := fin (i + (mat s i).2) (i + (mat s i).2) (by omega) (Nat.le_refl _) (by omega) (by omega)
          rw [if_neg (by omega)] at this; omega
        split <;> omega
      · split <;> omega
    · -- fewer than four bytes are left: all literal
      have all : ∀ (j i : Nat), s.length - i ≤ j → i ≤ s.length → ¬ 4 ≤ s.length - i → comp s i st = lits (s.drop st) := by
        intro j
        induction j with
        | zero => exact fun i hj hi _ => comp_end (by omega)
        | succ j ihj =>
          intro i hj hi h4
          by_cases hil : s.length ≤ i
          · exact comp_end hil
          · have hz : (mat s i).2 = 0 := by
              rcases mat_spec s i with h | h
              · rw [h]
              · omega
            rw [comp_skip (by omega) hz]
            exact ihj (i + 1) (by omega) (by omega) (by omega)
      rw [all _ i (Nat.le_refl _) hi h4, lits_len _ _ (Nat.le_refl _), List.length_drop]
      split <;> omega
theorem per_head {s : List UInt8} {p : Nat} (hp : Per s p) (h1 : 1 ≤ p) (h2 : p ≤ 20) (h4 : 4 * p ≤ s.length) : ∀ (k i st : Nat), p - i ≤ k → st ≤ i → i ≤ p → (comp s i st).length ≤ 2 * (s.length / 67) + 4 + (p - st) + 4
  | 0, i, st, hk, hst, hi => by
    have := per_rest hp h1 (by omega) s.length i st (by omega) hst (by omega) (by omega) (by omega)
    have h5 := Nat.div_le_div_right (c := 67) (show s.length - i ≤ s.length by omega)
    split at this <;> omega
  | k + 1, i, st, hk, hst, hi => by
    by_cases hip : p ≤ i
    · have := per_rest hp h1 (by omega) s.length i st (by omega) hst (by omega) (by omega) (by omega)
      have h5 := Nat.div_le_div_right (c := 67) (show s.length - i ≤ s.length by omega)
      split at this <;> omega
    · by_cases hmt : (mat s i).2 = 0
      · rw [comp_skip (by omega) hmt]
        exact per_head hp h1 h2 h4 k (i + 1) st (by omega) (by omega) (by omega)
      · rw [comp_match (by omega) hmt]
        have hq := mat_pos hmt
        rw [List.length_append, lits_len _ _ (Nat.le_refl _), List.length_take, List.length_drop, List.length_cons, List.length_cons]
        by_cases hin : i + (mat s i).2 ≤ p
        · have h3 := per_head hp h1 h2 h4 k (i + (mat s i).2) (i + (mat s i).2) (by omega) (Nat.le_refl _) hin
          omega
        · have h3 := per_rest hp h1 (by omega) s.length (i + (mat s i).2) (i + (mat s i).2) (by omega) (Nat.le_refl _) (by omega) (by omega) (by omega)
          rw [if_neg (by omega)] at h3
          have h5 := Nat.div_le_div_right (c := 67) (show s.length - (i + (mat s i).2) ≤ s.length by omega)
          omega
theorem runs {s : List UInt8} {p : Nat} (hp : Per s p) (h1 : 1 ≤ p) (h2 : p ≤ 20) (h4 : 4 * p ≤ s.length) : (compress s).length ≤ 2 * p + 2 + 2 * (s.length / 67 + 2) := by
  by_cases hp1 : p = 1
  · subst hp1
    have hz : (mat s 0).2 = 0 := by
      rcases mat_spec s 0 with h | h
      · rw [h]
      · omega
    unfold compress
    rw [comp_skip (by omega) hz]
    show (comp s 1 0).length ≤ _
    have := per_rest hp h1 (by omega) s.length 1 0 (by omega) (by omega) (by omega) (by omega) (by omega)
    have h5 := Nat.div_le_div_right (c := 67) (show s.length - 1 ≤ s.length by omega)
    rw [if_pos (by omega)] at this
    omega
  · have := per_head hp h1 h2 h4 p 0 0 (by omega) (Nat.le_refl _) (by omega)
    unfold compress
    omega
/-- A pattern, many times. -/
def reps (p : List UInt8) : Nat → List UInt8
  | 0 => []
  | n + 1 => reps p n ++ p
theorem reps_len (p : List UInt8) : ∀ n, (reps p n).length = n * p.length
  | 0 => by simp [reps]
  | n + 1 => by rw [reps, List.length_append, reps_len p n, Nat.succ_mul]
theorem reps_head (p : List UInt8) : ∀ n, reps p (n + 1) = p ++ reps p n
  | 0 => by simp [reps]
  | n + 1 => by
    show reps p (n + 1) ++ p = p ++ (reps p n ++ p)
    rw [reps_head p n, List.append_assoc]
theorem reps_per (p : List UInt8) (n : Nat) (h : 1 ≤ p.length) : Per (reps p n) p.length := by
  intro k hk hl
  cases n with
  | zero => simp [reps] at hl
  | succ n =>
    rw [reps_len] at hl
    have e1 : (reps p (n + 1))[k]? = (reps p n)[k - p.length]? := by
      rw [reps_head, List.getElem?_append_right hk]
    have e2 : (reps p (n + 1))[k - p.length]? = (reps p n)[k - p.length]? := by
      rw [reps, List.getElem?_append_left]
      rw [reps_len]
      rw [Nat.succ_mul] at hl; omega
    rw [e1, e2]
end Cp
end Go.Proofs.Ythpjbffhdaaibaa

set_option linter.unusedVariables false
namespace Go.Proofs.Ythpjbffhdaaibaa.St
open Enc Uv Lg
/-- A segment. -/
structure Seg where
  f : Nat
  kn : Nat
  es : List Ent
def late (es : List Ent) (kn : Nat) : Bool := es.any fun e => decide (kn < e.t)
/-- The entries, encoded, before compression. -/
def logOf (g : Seg) : List UInt8 × Int := if (decide (g.kn < g.f) || late g.es g.kn) = true then ([], 2400) else encode g.es g.f
def bodyOf (g : Seg) (r : List UInt8 × Int) : List UInt8 × Int := if r.2 = 0 then (put g.f ++ put g.kn ++ Cp.compress r.1, 0) else ([], r.2)
def body (g : Seg) : List UInt8 × Int := bodyOf g (logOf g)
def noSeg : Seg := ⟨0, 0, []⟩
def unlog (f kn : Nat) (p : List Ent × Int) : Seg × Int := if p.2 ≠ 0 then (noSeg, p.2) else if late p.1 kn = true then (noSeg, 2400) else (⟨f, kn, p.1⟩, 0)
noncomputable def unpack (f kn : Nat) (d : Nat × List UInt8) : Seg × Int := if d.1 ≠ 0 then (noSeg, d.1) else unlog f kn (decL d.2 f)
noncomputable def unbody2 (f : Nat) (t : List UInt8) : Seg × Int := if (!uvB t || decide (uvX t < f)) = true then (noSeg, 2400) else unpack f (uvX t) (Cp.dec 65536 (t.drop (uvN t)) [])
noncomputable def unbody (s : List UInt8) : Seg × Int := if uvB s = false then (noSeg, 2400) else unbody2 (uvX s) (s.drop (uvN s))
def segOk (g : Seg) : Bool := decide ((logOf g).2 = 0)
structure Snd where
  b : Nat
  t : Nat
  kn : Nat
  q : List Seg
/-- The segments follow each other; where they end. -/
def chain : Nat → List Seg → Option Nat
  | a, [] => some a
  | a, g :: l => if (decide (g.f = a) && segOk g) = true then chain g.kn l else none
def sendQ (S : Snd) : Bool := match S.q with
  | [] => decide (S.kn ≤ S.t)
  | g :: _ => decide (S.kn ≤ g.f) && (chain g.f S.q == some S.t)
def sending (S : Snd) : Bool := decide (1 ≤ S.b) && decide (S.b ≤ 4611686018427387904) && decide (S.q.length ≤ 8) && sendQ S
structure Er where
  s : Nat
  g : Seg
structure Rcv where
  n : Nat
  kn : Nat
  e : List Er
def asc (n : Nat) : Nat → List Er → Bool
  | _, [] => true
  | a, x :: l => decide (a < x.s) && decide (x.s < n + 8) && segOk x.g && asc n x.s l
def receiving (R : Rcv) : Bool := decide (1 ≤ R.n) && decide (R.n ≤ 4611686018427387904) && decide (R.e.length ≤ 7) && asc R.n R.n R.e
def push (S : Snd) (g : Seg) : Snd × Int := if (decide (g.f ≠ S.t) || !sending S) = true then (S, 2400) else if (logOf g).2 ≠ 0 then (S, (logOf g).2) else if 8 ≤ S.q.length then (S, 2401) else (⟨S.b, g.kn, S.kn, S.q ++ [g]⟩, 0)
def dataP (n : Nat) (g : Seg) : List UInt8 := packed n (68 :: (body g).1)
def ackP (n kn : Nat) : List UInt8 := packed n (65 :: put kn)
def packs : Nat → List Seg → List (List UInt8)
  | _, [] => []
  | b, g :: l => dataP b g :: packs (b + 1) l
def packets (S : Snd) : List (List UInt8) := if sending S = true then packs S.b S.q else []
def opened1 (r : Nat × List UInt8 × Int) (m : UInt8) : Nat × List UInt8 × Bool := if r.2.2 ≠ 0 then (0, [], false) else match r.2.1 with
  | [] => (0, [], false)
  | c :: t => if c = m then (r.1, t, true) else (0, [], false)
def opened (p : List UInt8) (m : UInt8) : Nat × List UInt8 × Bool := opened1 (opens p) m
def ackAt (S : Snd) (n : Nat) : Option Nat := (S.q[n - S.b - 1]?).map Seg.kn
def acked1 (S : Snd) (o : Nat × List UInt8 × Bool) : Snd × Bool :=
  if (!o.2.2 || !sending S) = true then (S, false)
  else if (!uvB o.2.1 || decide (uvN o.2.1 ≠ o.2.1.length)) = true then (S, false)
  else if (decide (o.1 ≤ S.b) || decide (S.q.length < o.1 - S.b)) = true then (S, false)
  else if ackAt S o.1 ≠ some (uvX o.2.1) then (S, false)
  else (⟨o.1, S.t, uvX o.2.1, S.q.drop (o.1 - S.b)⟩, true)
def acked (S : Snd) (p : List UInt8) : Snd × Bool := acked1 S (opened p 65)
/-- How many came before. -/
def before (n : Nat) (l : List Er) : Nat := (l.takeWhile fun x => decide (x.s < n)).length
def ins (x : Er) (l : List Er) : List Er := l.take (before x.s l) ++ x :: l.drop (before x.s l)
def drain : Nat → Nat → List Er → Rcv × List Seg
  | n, kn, [] => (⟨n, kn, []⟩, [])
  | n, kn, x :: l => if x.s = n then (if x.g.f = kn then ((drain (n + 1) x.g.kn l).1, x.g :: (drain (n + 1) x.g.kn l).2) else (⟨n, kn, l⟩, [])) else (⟨n, kn, x :: l⟩, [])
def has (n : Nat) (l : List Er) : Bool := l.any fun x => decide (x.s = n)
def take3 (R : Rcv) (n : Nat) (u : Seg × Int) : Rcv × List Seg × Bool :=
  if u.2 ≠ 0 then (R, [], false) else if (decide (n < R.n) || has n R.e) = true then (R, [], true)
  else ((drain R.n R.kn (ins ⟨n, u.1⟩ R.e)).1, (drain R.n R.kn (ins ⟨n, u.1⟩ R.e)).2, true)
noncomputable def take1 (R : Rcv) (o : Nat × List UInt8 × Bool) : Rcv × List Seg × Bool :=
  if (!o.2.2 || !receiving R || decide (R.n + 8 ≤ o.1)) = true then (R, [], false) else take3 R o.1 (unbody o.2.1)
noncomputable def take (R : Rcv) (p : List UInt8) : Rcv × List Seg × Bool := take1 R (opened p 68)
def reply (R : Rcv) : List UInt8 := if receiving R = true then ackP R.n R.kn else []
end Go.Proofs.Ythpjbffhdaaibaa.St

namespace Go.Proofs.Ythpjbffhdaaibaa
open Go.Shelf Go.RowKit
namespace Bld
def ren : Go.Shelf.Ren := ⟨fun | 240 => 88 | 276 => 90 | 166 => 75 | 170 => 77 | 169 => 78 | n => n, fun | 0 => 0 | 3 => 3 | 4 => 4 | 5 => 5 | 9 => 9 | 20 => 20 | 37 => 100 | 70 => 134 | 72 => 136 | 75 => 138 | 80 => 143 | 127 => 152 | 164 => 154 | n => n, fun | n => n⟩
theorem lays240 : Go.Proofs.Lays.n240 Try.prog ren := {
  mixed := by kernel_rfl
  f240 := Try.func88.trans (congrArg some (by kernel_rfl))
  f276 := Try.func90.trans (congrArg some (by kernel_rfl))
  t0 := Try.underlying0
  a0 := Try.isAgg0
  z0 := Try.sizeOf0
  v0 := Try.zeroValue0
  t4 := Try.underlying4
  a4 := Try.isAgg4
  z4 := Try.sizeOf4
  v4 := Try.zeroValue4
  t9 := Try.underlying9
  a9 := Try.isAgg9
  z9 := Try.sizeOf9
  v9 := Try.zeroValue9
  t20 := Try.underlying20
  a20 := Try.isAgg20
  z20 := Try.sizeOf20
  v20 := Try.zeroValue20
  t70 := Try.underlying134
  a70 := Try.isAgg134
  z70 := Try.sizeOf134
  v70 := Try.zeroValue134
  t72 := Try.underlying136
  a72 := Try.isAgg136
  z72 := Try.sizeOf136
  v72 := Try.zeroValue136
  t164 := Try.underlying154
  a164 := Try.isAgg154
  z164 := Try.sizeOf154
  v164 := Try.zeroValue154 }
theorem lays166 : Go.Proofs.Lays.n166 Try.prog ren := {
  mixed := by kernel_rfl
  f166 := Try.func75.trans (congrArg some (by kernel_rfl))
  f240 := Try.func88.trans (congrArg some (by kernel_rfl))
  f276 := Try.func90.trans (congrArg some (by kernel_rfl))
  t0 := Try.underlying0
  a0 := Try.isAgg0
  z0 := Try.sizeOf0
  v0 := Try.zeroValue0
  t3 := Try.underlying3
  a3 := Try.isAgg3
  z3 := Try.sizeOf3
  v3 := Try.zeroValue3
  t4 := Try.underlying4
  a4 := Try.isAgg4
  z4 := Try.sizeOf4
  v4 := Try.zeroValue4
  t9 := Try.underlying9
  a9 := Try.isAgg9
  z9 := Try.sizeOf9
  v9 := Try.zeroValue9
  t20 := Try.underlying20
  a20 := Try.isAgg20
  z20 := Try.sizeOf20
  v20 := Try.zeroValue20
  t37 := Try.underlying100
  a37 := Try.isAgg100
  z37 := Try.sizeOf100
  v37 := Try.zeroValue100
  t70 := Try.underlying134
  a70 := Try.isAgg134
  z70 := Try.sizeOf134
  v70 := Try.zeroValue134
  t72 := Try.underlying136
  a72 := Try.isAgg136
  z72 := Try.sizeOf136
  v72 := Try.zeroValue136
  t75 := Try.underlying138
  a75 := Try.isAgg138
  z75 := Try.sizeOf138
  v75 := Try.zeroValue138
  t164 := Try.underlying154
  a164 := Try.isAgg154
  z164 := Try.sizeOf154
  v164 := Try.zeroValue154 }
theorem lays170 : Go.Proofs.Lays.n170 Try.prog ren := {
  mixed := by kernel_rfl
  f170 := Try.func77.trans (congrArg some (by kernel_rfl))
  t0 := Try.underlying0
  a0 := Try.isAgg0
  z0 := Try.sizeOf0
  v0 := Try.zeroValue0
  t3 := Try.underlying3
  a3 := Try.isAgg3
  z3 := Try.sizeOf3
  v3 := Try.zeroValue3
  t37 := Try.underlying100
  a37 := Try.isAgg100
  z37 := Try.sizeOf100
  v37 := Try.zeroValue100
  t70 := Try.underlying134
  a70 := Try.isAgg134
  z70 := Try.sizeOf134
  v70 := Try.zeroValue134
  t72 := Try.underlying136
  a72 := Try.isAgg136
  z72 := Try.sizeOf136
  v72 := Try.zeroValue136 }
theorem lays169 : Go.Proofs.Lays.n169 Try.prog ren := {
  mixed := by kernel_rfl
  f169 := Try.func78.trans (congrArg some (by kernel_rfl))
  t0 := Try.underlying0
  a0 := Try.isAgg0
  z0 := Try.sizeOf0
  v0 := Try.zeroValue0
  t3 := Try.underlying3
  a3 := Try.isAgg3
  z3 := Try.sizeOf3
  v3 := Try.zeroValue3
  t9 := Try.underlying9
  a9 := Try.isAgg9
  z9 := Try.sizeOf9
  v9 := Try.zeroValue9
  t37 := Try.underlying100
  a37 := Try.isAgg100
  z37 := Try.sizeOf100
  v37 := Try.zeroValue100
  t70 := Try.underlying134
  a70 := Try.isAgg134
  z70 := Try.sizeOf134
  v70 := Try.zeroValue134
  t72 := Try.underlying136
  a72 := Try.isAgg136
  z72 := Try.sizeOf136
  v72 := Try.zeroValue136
  t127 := Try.underlying152
  a127 := Try.isAgg152
  z127 := Try.sizeOf152
  v127 := Try.zeroValue152 }
theorem x72 : Builder.X72 Try.prog ren := {
  sizeBuilder := by kernel_rfl
  liesBuilder := by kernel_rfl }
theorem extra : Builder.Extra Try.prog ren := {
  sizeBuilder := by kernel_rfl
  liesBuilder := by kernel_rfl
  t5 := Try.underlying5
  a5 := Try.isAgg5
  z5 := Try.sizeOf5
  v5 := Try.zeroValue5
  infoByte := by kernel_rfl
  cellsByte := by kernel_rfl
  sizeByte := by kernel_rfl
  neB5 := by decide }
/-- A builder at block b that holds these bytes (its base is its own block). -/
def Is (b : Nat) (l : List UInt8) (w : World) : Prop := Lib.IsBuilderF 136 5 b b (Lib.byteCells l) w
/-- What a call on the builder at b keeps: all below it, and each block that is neither it nor a row of bytes. -/
def Kept (b : Nat) (w w' : World) : Prop := Below b w w' ∧ Lib.OthersKept 5 (some b) w w'
theorem Is.new (w : World) : Is w.heap.size [] (w.alloc (.cells #[.pointer none, .slice none 0 0] 136)) := Lib.IsBuilderF.of (Lib.fresh_isBuilder _ _ w)
theorem at_held {b : Nat} {p : Value} {bs : List Value} {w a : World} (h : Lib.BuilderAtF 136 5 b b p bs w) (ha : Held w a) : Lib.BuilderAtF 136 5 b b p bs a := by
  have hlt := h.lt
  obtain ⟨hB, v, hv, hown, hne⟩ := h
  exact ⟨hB, v, (ha.block b hlt).trans hv, hown.kept (row := none) ⟨ha.os, ha.tape, ha.output, ha.size, fun k hk _ => ha.block k hk⟩ (Classical.em _), hne⟩
theorem Is.held {b : Nat} {l : List UInt8} {w a : World} (h : Is b l w) (ha : Held w a) : Is b l a := Or.elim h (fun x => .inl (at_held x ha)) (fun x => .inr (at_held x ha))
theorem Kept.box {b q : Nat} {w a : World} {cs : Array Value} {T : TypeId} {fz : Nat × Nat} (h : Kept b w a) (hq : w.heap[q]? = some (.cells cs T fz)) (hb : q ≠ b) (hT : T ≠ 5) : a.heap[q]? = some (.cells cs T fz) :=
  h.2 q _ hq (by simpa using hb) (by intro c z e; cases e; exact hT rfl)
theorem Kept.heldOf {b : Nat} {W w a : World} (h : Kept b w a) (hW : Held W w) (hb : W.heap.size ≤ b) : Held W a := Below.trans hW (Below.mono h.1 hb)
theorem write_any (b : Nat) (l : List UInt8) (s : ByteArray) (w : World) (h : Is b l w) (hlen : l.length + s.size ≤ 140737488355328) (hB : b ≤ w.heap.size) :
    Calls Try.prog 75 #[.pointer (some ⟨b, 0, none⟩), .string s] w fun e w' => e = .returned (.tuple #[.int .i64 s.size, .nilIface]) ∧ Is b (l ++ s.data.toList) w' ∧ Kept b w w' := by
  refine (Any.Builder_WriteString_k lays166 extra b b (Lib.byteCells l) s w h (by rw [Lib.byteCells_length]; exact hlen) hB).mono ?_
  rintro e w' ⟨rfl, h1, h2, h3⟩
  refine ⟨rfl, ?_, h2, h3⟩
  unfold Is
  rw [Lib.byteCells_append]
  exact Or.inr h1
theorem string_any (b : Nat) (l : List UInt8) (w : World) (h : Is b l w) (hB : b ≤ w.heap.size) :
    Calls Try.prog 78 #[.pointer (some ⟨b, 0, none⟩)] w fun e w' => e = .returned (.string ⟨l.toArray⟩) ∧ Is b l w' ∧ Kept b w w' :=
  (Any.Builder_String_any_k lays169 extra b b l w h hB).mono fun _ _ ⟨h0, h1, h2, h3⟩ => ⟨h0, h1, h2, h3⟩
theorem len_any (b : Nat) (l : List UInt8) (w : World) (h : Is b l w) :
    Calls Try.prog 77 #[.pointer (some ⟨b, 0, none⟩)] w fun e w' => e = .returned (.int .i64 l.length) ∧ w' = w := by
  have := Any.Builder_Len_f lays170 b b (Lib.byteCells l) w h
  rw [Lib.byteCells_length] at this
  exact this
end Bld
end Go.Proofs.Ythpjbffhdaaibaa

set_option linter.unusedVariables false
set_option linter.unusedSimpArgs false
set_option maxRecDepth 100000
namespace Go.Proofs.Ythpjbffhdaaibaa
open Go.RowKit Go.BigFrame Go.Sort
namespace Enc
open Lgc Lg Strs
theorem encE1 (n : Nat) (d : List UInt8) (k : Nat) (h : k = 1 ∨ k = 3 ∨ k = 6) : encE k n d = Uv.put k ++ Uv.put n := by
  unfold encE; rw [if_pos (by omega)]; rfl
theorem encE4 (n : Nat) (d : List UInt8) : encE (4 : Nat) n d = Uv.put 4 ++ Uv.put n ++ (Uv.put d.length ++ d) := rfl
theorem encE5 (n : Nat) (d : List UInt8) : encE (5 : Nat) n d = Uv.put 5 ++ (Uv.put d.length ++ d) := rfl
theorem encE2 (n : Nat) (d : List UInt8) : encE (2 : Nat) n d = Uv.put 2 := rfl
set_option maxHeartbeats 2000000 in
theorem encodeEvent_any (k n : Nat) (d : ByteArray) (h1 : 1 ≤ k) (h6 : k ≤ 6) (hn : (n : Int) ≤ 4294967295) (hd : d.size ≤ 128) (w : World) :
    Calls Try.prog 76 #[.agg #[.int .i64 k, .int .u32 n, .string d]] w (MakesS (encE k n d.data.toList) w) := by
  have hp1 := Uv.put_len k (by omega)
  have hp2 := Uv.put_len n (by omega)
  have hp3 := Uv.put_len d.size (by omega)
  have H1 := Lib.hid (fun w => put_any k (by omega) w)
  have H2 := Lib.hid (fun w => put_any n (by omega) w)
  have H3 := Lib.hid (fun w => put_any d.size (by omega) w)
  have hlen := len_eq d
  have E1 : Hid (k = 1 ∨ k = 3 ∨ k = 6 → encE k n d.data.toList = Uv.put k ++ Uv.put n) := fun h => encE1 n _ k h
  have E4 : Hid (k = 4 → encE k n d.data.toList = Uv.put k ++ Uv.put n ++ (Uv.put d.size ++ d.data.toList)) := fun h => by subst h; rw [← hlen]; exact encE4 n _
  have E5 : Hid (k = 5 → encE k n d.data.toList = Uv.put k ++ (Uv.put d.size ++ d.data.toList)) := fun h => by subst h; rw [← hlen]; exact encE5 n _
  have E2 : Hid (k = 2 → encE k n d.data.toList = Uv.put k) := fun h => by subst h; exact encE2 n _
  generalize Uv.put k = a at hp1 H1 E1 E2 E4 E5
  generalize Uv.put n = b at hp2 H2 E1 E4
  generalize Uv.put d.size = c at hp3 H3 E4 E5
  generalize encE k n d.data.toList = r at E1 E2 E4 E5
  clear hlen
  have HB := Lib.hid (fun w' (h : Held (w.alloc (.cells #[.int .i64 k, .int .u32 n, .string d] 103)) w') => And.intro (h.cell (p := ⟨w.heap.size, 0, none⟩) (v := .int .i64 k) (by simp)) (And.intro (h.cell (p := ⟨w.heap.size, 1, none⟩) (v := .int .u32 n) (by simp)) (h.cell (p := ⟨w.heap.size, 2, none⟩) (v := .string d) (by simp))))
  go_enter Try.func76, Try.ntmps76
  go_wp2_with fail
  refine (H1.out _).mono ?_
  rintro e w1 ⟨rfl, q1⟩
  have W1 := Lib.hid q1
  obtain ⟨c0, c1, c2⟩ := HB.out _ q1
  clear q1
  go_wp2_with fail
  refine (H2.out _).mono ?_
  rintro e w2 ⟨rfl, q2⟩
  have W2 := Lib.hid (Held.step W1.out q2)
  obtain ⟨d0, d1, d2⟩ := HB.out _ W2.out
  clear q2 c0 c1 c2 W1
  go_wp2
  have k2 := cell_regrown d2
  have cA := Lib.hid fun d os => Calls.regrown_of (d := d) (os := os) (H3.out (grow (redrawn w2 d) os))
  refine wp_region_quiet_below (by kernel_rfl) (by kernel_rfl) ?_
  repeat (go_big_quiet_step (first | (go_at_call 30; exact cA.out _ _)))
  refine wpQuiet_nil ?_
  intro _ hw'
  obtain ⟨⟨dq, osq⟩, hw''⟩ := hw'
  subst hw''
  have W3 := Lib.hid (W2.out.step (below_regrown w2 dq osq))
  obtain ⟨e0, e1, e2⟩ := HB.out _ W3.out
  clear d0 d1 d2 k2 cA W2 H1 H2 H3
  obtain ⟨w3, hw3⟩ : ∃ x, x = grow (redrawn w2 dq) osq := ⟨_, rfl⟩
  rw [← hw3] at W3 e0 e1 e2 ⊢
  clear hw3
  have fin : Hid (∀ s : ByteArray, s.data.toList = r → MakesS r w (.returned (.string s)) w3) := fun s hs => ⟨ret_str hs, ((Held.refl w).alloc _).step W3.out⟩
  have hk : k = 1 ∨ k = 2 ∨ k = 3 ∨ k = 4 ∨ k = 5 ∨ k = 6 := by omega
  rcases hk with rfl | rfl | rfl | rfl | rfl | rfl
  · have he := E1.out (by omega)
    clear E1 E2 E4 E5
    go_wp2
    go_ret
    exact fin.out _ (by rw [he]; simp)
  · have he := E2.out rfl
    clear E1 E2 E4 E5
    go_wp2
    go_ret
    exact fin.out _ (by rw [he])
  · have he := E1.out (by omega)
    clear E1 E2 E4 E5
    go_wp2
    go_ret
    exact fin.out _ (by rw [he]; simp)
  · have he := E4.out rfl
    clear E1 E2 E4 E5
    go_wp2
    go_ret
    exact fin.out _ (by rw [he]; simp)
  · have he := E5.out rfl
    clear E1 E2 E4 E5
    go_wp2
    go_ret
    exact fin.out _ (by rw [he]; simp)
  · have he := E1.out (by omega)
    clear E1 E2 E4 E5
    go_wp2
    go_ret
    exact fin.out _ (by rw [he]; simp)
end Enc
end Go.Proofs.Ythpjbffhdaaibaa

set_option linter.unusedVariables false
set_option linter.unusedSimpArgs false
set_option maxRecDepth 100000
namespace Go.Proofs.Ythpjbffhdaaibaa
open Go.RowKit Go.BigFrame Go.Sort
namespace Enc
open Lgc Lg Strs
set_option maxHeartbeats 2000000 in
theorem ord_any (A : Option Addr) (n cap : Nat) (L : List Ent) (w : World) (h : Sl 4 entC w A n L) (hn : n ≤ 1000000) (hx : ∀ x ∈ L, EntOK x) :
    Calls Try.prog 74 #[.slice A n cap] w fun e w' => e = .returned (.bool (ord L)) ∧ Held w w' := by
  have HS := Lib.hid h
  have HX := Lib.hid hx
  have HL := Lib.hid h.1
  clear h hx
  go_enter Try.func74, Try.ntmps74
  go_wp2
  go_loopw [3] (fun i wr => ∃ q : Nat, i = .int .i64 ((q + 1 : Nat) : Int) ∧ (q = 0 ∨ q + 1 ≤ n) ∧ ordTo L q = true ∧ Held w wr) (fun i _ => n - (intOf i).toNat)
  case atStart => exact ⟨0, rfl, .inl rfl, rfl, Held.refl _⟩
  case round =>
    obtain ⟨q, rfl, hq, ho, hh⟩ := hrel
    have HO := Lib.hid ho
    have HH := Lib.hid hh
    clear ho
    by_cases hlt : q + 1 < n
    · obtain ⟨b, off, x, rfl, hb, hx1, hc1⟩ := HS.out.at_ hh (k := q) (by omega)
      obtain ⟨b', off', y, he, _, hy1, hc2⟩ := HS.out.at_ hh (k := q + 1) (by omega)
      injection he with he
      injection he with hb1 ho1
      subst hb1 ho1
      have x0 := hc1 0 _ rfl
      have x1 := hc1 1 _ rfl
      have x2 := hc1 2 _ rfl
      have x3 := hc1 3 _ rfl
      have y0 := hc2 0 _ rfl
      have y1 := hc2 1 _ rfl
      have y2 := hc2 2 _ rfl
      have y3 := hc2 3 _ rfl
      rw [Nat.add_zero] at x0 y0
      clear hc1 hc2
      have z1 : (0 : Int) ≤ ↑q + 1 := by omega
      have z2 : (↑q + 1 : Int) < n := by omega
      have z3 : (0 : Int) ≤ ↑q := by omega
      have z4 : (↑q : Int) < n := by omega
      have hbr : b < wr.heap.size := by have := HH.out.le; omega
      have hbr2 : b < wr.heap.size + 1 := by omega
      have hbn : ¬ b = wr.heap.size := by omega
      have hbn2 : ¬ b = wr.heap.size + 1 := by omega
      have hxe : L[q]'(by have := HL.out; omega) = x := by rw [List.getElem?_eq_getElem (by have := HL.out; omega)] at hx1; injection hx1
      have hye : L[q + 1]'(by have := HL.out; omega) = y := by rw [List.getElem?_eq_getElem (by have := HL.out; omega)] at hy1; injection hy1
      have hn1 := ordTo_next (L := L) (k := q) (by have := HL.out; omega)
      rw [hxe, hye, HO.out] at hn1
      have HNX := Lib.hid hn1
      have HSZ : Hid (w.heap.size ≤ wr.heap.size) := HH.out.le
      clear hx1 hy1 hxe hye hn1 hq hb hh
      rcases Nat.lt_trichotomy y.t x.t with ht | ht | ht
      · have hno : Hid (ord L = false) := ordTo_no (j := q + 1) (by rw [HNX.out]; simp [adj, ht]) (by have := HL.out; omega)
        have t1 : (y.t : Int) < x.t := by omega
        go_wp2
        go_region
        all_goals
          go_wp2
          go_ret
          exact ⟨by rw [hno.out]; rfl, ((HH.out.drew.alloc _).alloc _)⟩
      · have t1 : ((y.t : Int) == x.t) = true := by simp [ht]
        have t2 : decide (y.t < x.t) = false := by simp; omega
        have t3 : decide ((y.t : Int) < x.t) = false := by simp; omega
        by_cases hk : x.k = 1
        · have hno : Hid (ord L = false) := ordTo_no (j := q + 1) (by rw [HNX.out]; simp [adj, ht, hk]) (by have := HL.out; omega)
          have t4 : (x.k == 1) = true := by simp [hk]
          clear ht hk
          go_wp2
          go_region
          all_goals
            go_wp2
            go_ret
            exact ⟨by rw [hno.out]; rfl, ((HH.out.drew.alloc _).alloc _)⟩
        · have hyes : Hid (ordTo L (q + 1) = true) := show _ = _ by rw [HNX.out]; simp [adj, ht, hk]
          have t4 : (x.k == 1) = false := by simp [hk]
          clear ht hk
          go_wp2
          go_region
          all_goals
            go_wp2
            go_roundw
            case rel => exact ⟨q + 1, by go_num, .inr (by omega), hyes.out, ((HH.out.drew.alloc _).alloc _)⟩
            case measure => (simp [intOf]) <;> omega
      · have hyes : Hid (ordTo L (q + 1) = true) := show _ = _ by rw [HNX.out]; simp [adj]; omega
        have t1 : ((y.t : Int) == x.t) = false := by simp; omega
        have t2 : decide (y.t < x.t) = false := by simp; omega
        have t3 : decide ((y.t : Int) < x.t) = false := by simp; omega
        clear ht
        go_wp2
        go_region
        all_goals
          go_wp2
          go_roundw
          case rel => exact ⟨q + 1, by go_num, .inr (by omega), hyes.out, ((HH.out.drew.alloc _).alloc _)⟩
          case measure => (simp [intOf]) <;> omega
    · have hyes : Hid (ord L = true) := show _ = _ by
        unfold ord
        rw [HL.out, show n - 1 = q by omega]; exact HO.out
      clear hh
      go_wp2
      go_ret
      exact ⟨by rw [hyes.out]; rfl, HH.out⟩
end Enc
end Go.Proofs.Ythpjbffhdaaibaa

set_option linter.unusedVariables false
set_option linter.unusedSimpArgs false
set_option maxRecDepth 100000
namespace Go.Proofs.Ythpjbffhdaaibaa
open Go.RowKit Go.BigFrame Go.Sort
namespace Enc
open Lgc Lg Strs
def EncTo (r : List UInt8 × Int) (w : World) (e : Ending) (w' : World) : Prop := e = .returned (.tuple #[.string ⟨r.1.toArray⟩, .int .i64 r.2]) ∧ Held w w'
theorem EncTo.mk {r : List UInt8 × Int} {w w' : World} {s : ByteArray} {c : Int} (h : r = (s.data.toList, c)) (hh : Held w w') : EncTo r w (.returned (.tuple #[.string s, .int .i64 c])) w' := by
  subst h; exact ⟨by rw [← str_mk (s := s) rfl], hh⟩
/-- A box that holds an entry. -/
def BoxE (q : Nat) (x : Ent) (w : World) : Prop := w.heap[q]? = some (.cells #[.int .u64 (x.t : Int), .int .i64 x.k, .int .u32 x.n, .string x.d] 106 (0, 0))
theorem BoxE.cells {q : Nat} {x : Ent} {w : World} (h : BoxE q x w) : w.cell? ⟨q, 0, none⟩ = some (.int .u64 (x.t : Int)) ∧ w.cell? ⟨q, 1, none⟩ = some (.int .i64 x.k) ∧ w.cell? ⟨q, 2, none⟩ = some (.int .u32 x.n) ∧ w.cell? ⟨q, 3, none⟩ = some (.string x.d) :=
  ⟨box_cell h 0 rfl, box_cell h 1 rfl, box_cell h 2 rfl, box_cell h 3 rfl⟩
theorem BoxE.held {q : Nat} {x : Ent} {w w' : World} (h : BoxE q x w) (k : Held w w') : BoxE q x w' := (k.block q (box_lt h)).trans h
theorem BoxE.kept {q b : Nat} {x : Ent} {w w' : World} (h : BoxE q x w) (k : Bld.Kept b w w') (hb : q ≠ b) : BoxE q x w' := k.box h hb (by decide)
theorem BoxE.new (x : Ent) (w : World) : BoxE w.heap.size x (w.alloc (.cells #[.int .u64 (x.t : Int), .int .i64 x.k, .int .u32 x.n, .string x.d] 106)) := box_new _ _
theorem all_next (L : List Ent) (k : Nat) (h : k < L.length) : (L.take (k + 1)).all okX = ((L.take k).all okX && okX L[k]) := by
  rw [take_next L k h, List.all_append]; simp
theorem all_no {L : List Ent} {k : Nat} (h : (L.take k).all okX = false) : L.all okX = false := by
  cases hh : L.all okX
  · rfl
  · rw [List.all_eq_true] at hh
    rw [List.all_eq_false] at h
    obtain ⟨x, hx, hn⟩ := h
    exact absurd (hh x (List.mem_of_mem_take hx)) hn
theorem enc_long {L : List Ent} {f : Nat} (h : 400 < L.length) : encode L f = ([], 1902) := if_pos h
theorem enc_form {L : List Ent} {f : Nat} (h : ¬ 400 < L.length) (h2 : L.all okX = false) : encode L f = ([], 1900) := by unfold encode; rw [if_neg h, if_pos h2]
theorem enc_order {L : List Ent} {f : Nat} (h : ¬ 400 < L.length) (h2 : L.all okX = true) (h3 : (!ord L || early L f) = true) : encode L f = ([], 1901) := by unfold encode; rw [if_neg h, if_neg (by simp [h2]), if_pos h3]
theorem enc_big {L : List Ent} {f : Nat} (h : ¬ 400 < L.length) (h2 : L.all okX = true) (h3 : (!ord L || early L f) = false) (h4 : 65536 < (Uv.put L.length ++ encF f L).length) : encode L f = ([], 1902) := by unfold encode; rw [if_neg h, if_neg (by simp [h2]), if_neg (by simp [h3]), if_pos h4]
theorem enc_yes {L : List Ent} {f : Nat} (h : ¬ 400 < L.length) (h2 : L.all okX = true) (h3 : (!ord L || early L f) = false) (h4 : ¬ 65536 < (Uv.put L.length ++ encF f L).length) : encode L f = (Uv.put L.length ++ encF f L, 0) := by unfold encode; rw [if_neg h, if_neg (by simp [h2]), if_neg (by simp [h3]), if_neg h4]
set_option maxHeartbeats 4000000 in
/-- The part behind the tests: the loop that writes. -/
theorem encode_any (A : Option Addr) (n cap : Nat) (L : List Ent) (f : Nat) (w : World) (h : Sl 4 entC w A n L) (hn : n ≤ 1000000) (hx : ∀ x ∈ L, EntOK x) (hf : (f : Int) ≤ 18446744073709551615) :
    Calls Try.prog 56 #[.slice A n cap, .int .u64 f] w (EncTo (encode L f) w) := by
  have HS := Lib.hid h
  have HX := Lib.hid hx
  have HL := Lib.hid h.1
  have hl := h.1
  clear h hx
  by_cases h4 : (400 : Int) < n
  · have HE := Lib.hid (enc_long (f := f) (L := L) (by omega))
    clear hl
    go_enter Try.func56, Try.ntmps56
    go_wp2
    go_ret2
    exact EncTo.mk HE.out (Held.refl _)
  · have HN : Hid (¬ 400 < L.length) := by show ¬ _; omega
    clear hl
    go_enter Try.func56, Try.ntmps56
    go_wp2
    go_loopw [16] (fun i wr => ∃ k : Nat, i = .int .i64 k ∧ k ≤ n ∧ (L.take k).all okX = true ∧ Held w wr) (fun i _ => n - (intOf i).toNat)
    case atStart => exact ⟨0, rfl, Nat.zero_le _, rfl, Held.refl _⟩
    case round =>
      obtain ⟨k, rfl, hk, ho, hh⟩ := hrel
      have HO := Lib.hid ho
      have HH := Lib.hid hh
      clear ho
      by_cases hlt : (k : Int) < n
      · obtain ⟨b, off, x, rfl, hb, hx1, hc1⟩ := HS.out.at_ hh (k := k) (by omega)
        have x0 := hc1 0 _ rfl
        have x1 := hc1 1 _ rfl
        have x2 := hc1 2 _ rfl
        have x3 := hc1 3 _ rfl
        rw [Nat.add_zero] at x0
        have hkL : k < L.length := by have := HL.out; omega
        have hxe : L[k] = x := by rw [List.getElem?_eq_getElem hkL] at hx1; injection hx1
        have hn1 := all_next L k hkL
        rw [hxe, HO.out, Bool.true_and] at hn1
        have hxo : EntOK x := HX.out x (hxe ▸ List.getElem_mem hkL)
        have HNX := Lib.hid hn1
        have HV := Lib.hid (fun w => Ev.valid_any x.k x.n x.d hxo.k1 hxo.k2 hxo.n1 hxo.n2 hxo.d w)
        clear hc1 hx1 hxe hn1 hh hkL hxo
        obtain ⟨v, hv⟩ : ∃ v, Ev.ok x.k x.n x.d.data.toList = v := ⟨_, rfl⟩
        rw [hv] at HV
        have HVX : Hid (okX x = v) := hv
        clear hv
        cases v
        · have HE := Lib.hid (enc_form (f := f) HN.out (all_no (by rw [HNX.out]; exact HVX.out)))
          go_wp2_with (go_at_call 73; refine (HV.out _).mono ?_; rintro e w1 ⟨rfl, h1⟩)
          go_ret2
          exact EncTo.mk HE.out ((HH.out.alloc _).step h1)
        · go_wp2_with (go_at_call 73; refine (HV.out _).mono ?_; rintro e w1 ⟨rfl, h1⟩)
          go_roundw
          case rel => exact ⟨k + 1, by go_num, by omega, HNX.out.trans HVX.out, (HH.out.alloc _).step h1⟩
          case measure => (simp [intOf]) <;> omega
      · obtain rfl : k = n := by omega
        have HA : Hid (L.all okX = true) := show _ = _ by have := HO.out; rw [← HL.out, List.take_length] at this; exact this
        clear hh HO
        have HOR := Lib.hid (fun cap w' (q : Held w w') => ord_any A k cap L w' (HS.out.held q) (by omega) HX.out)
        go_upto_region 9 with fail
        go_cut [40] (fun v wx => v = .bool (!ord L || early L f) ∧ Held w wx)
        case first =>
          obtain ⟨o, ho⟩ : ∃ o, ord L = o := ⟨_, rfl⟩
          rw [ho] at HOR
          have HHO := Lib.hid ho
          clear ho
          cases o
          · go_wp2_with (go_at_call 74; refine (HOR.out _ _ HH.out).mono ?_; rintro e w1 ⟨rfl, h1⟩)
            go_meet
            exact ⟨by rw [HHO.out]; rfl, HH.out.step h1⟩
          · by_cases hk0 : k = 0
            · have he : Hid (early L f = false) := show _ = _ by
                have : L = [] := List.eq_nil_of_length_eq_zero (by have := HL.out; omega)
                subst this; rfl
              have d1 : decide ((0 : Int) < k) = false := by simp; omega
              have d1n : decide (0 < k) = false := by simp; omega
              clear hk0
              go_wp2_with (go_at_call 74; refine (HOR.out _ _ HH.out).mono ?_; rintro e w1 ⟨rfl, h1⟩)
              go_meet
              exact ⟨by rw [HHO.out, he.out]; rfl, HH.out.step h1⟩
            · obtain ⟨b, off, x, rfl, hb, hx1, hc1⟩ := HS.out.at_ (Held.refl w) (k := 0) (by omega)
              have x0 := hc1 0 _ rfl
              simp only [Nat.zero_mul, Nat.add_zero] at x0
              have he : Hid (early L f = decide (x.t < f)) := show _ = _ by unfold early; rw [hx1]
              have d1 : (0 : Int) < k := by omega
              have d1n : 0 < k := by omega
              clear hk0 hc1 hx1
              have X0 := Lib.hid (fun w' (q : Held w w') => q.cell x0)
              clear x0
              by_cases hlt2 : x.t < f
              · have e1 : (x.t : Int) < f := by omega
                go_wp2_with (go_at_call 74; refine (HOR.out _ _ HH.out).mono ?_; rintro e w1 ⟨rfl, h1⟩; have x0 := X0.out _ (HH.out.step h1))
                go_meet
                exact ⟨by rw [HHO.out, he.out]; simp [hlt2], HH.out.step h1⟩
              · have e2 : decide (x.t < f) = false := by simp; omega
                have e1 : decide ((x.t : Int) < f) = false := by simp; omega
                go_wp2_with (go_at_call 74; refine (HOR.out _ _ HH.out).mono ?_; rintro e w1 ⟨rfl, h1⟩; have x0 := X0.out _ (HH.out.step h1))
                go_meet
                exact ⟨by rw [HHO.out, he.out]; simp [hlt2], HH.out.step h1⟩
        case rest =>
          obtain ⟨rfl, hhx⟩ := hcut
          clear HOR HH
          have HH := Lib.hid hhx
          clear hhx
          obtain ⟨o, ho⟩ : ∃ o, (!ord L || early L f) = o := ⟨_, rfl⟩
          rw [ho]
          cases o
          · have HHO := Lib.hid ho
            clear ho
            have hor : ord L = true ∧ early L f = false := by have := HHO.out; simpa using this
            have HOE := Lib.hid hor
            clear hor
            have hpk := Uv.put_len k (by omega)
            have HP := Lib.hid (fun w => put_any k (by omega) w)
            have HLK : Hid (Uv.put L.length = Uv.put k) := show _ = _ by rw [HL.out]
            generalize Uv.put k = pk at hpk HP HLK
            have B0 := Lib.hid (Bld.Is.new wc)
            have hb0 : Hid (w.heap.size ≤ wc.heap.size) := HH.out.le
            go_wp2_with fail
            refine (HP.out _).mono ?_
            rintro e w1 ⟨rfl, h1⟩
            have B1 := Lib.hid (B0.out.held h1)
            have W1 := Lib.hid ((HH.out.alloc (.cells #[.pointer none, .slice none 0 0] 136)).step h1)
            have hs1 : wc.heap.size < w1.heap.size := by have := h1.size; simp at this; omega
            clear h1 HP B0
            generalize wc.heap.size = bb at hb0 B1 hs1 ⊢
            have hl1 := ba_size pk
            go_wp2_with fail
            refine (Bld.write_any bb [] _ w1 B1.out (by rw [hl1]; simp; omega) (by omega)).mono ?_
            rintro e w2 ⟨rfl, i2, k2⟩
            have i3 : Bld.Is bb (pk ++ encF f (L.take 0)) w2 := by simpa [encF] using i2
            have I2 := Lib.hid i3
            have W2 := Lib.hid (k2.heldOf W1.out hb0.out)
            have hs2 : bb < w2.heap.size := by have := k2.1.size; omega
            clear i2 k2 B1 W1 hs1 hl1 HH i3
            go_wp2
            go_loopw [1, 48] (fun lt i wr => ∃ q : Nat, i = .int .i64 q ∧ q ≤ k ∧ lt = .int .u64 (lastT f (L.take q) : Nat) ∧ Bld.Is bb (pk ++ encF f (L.take q)) wr ∧ Held w wr ∧ bb < wr.heap.size) (fun _ i _ => k - (intOf i).toNat)
            case atStart => exact ⟨0, rfl, Nat.zero_le _, rfl, I2.out, W2.out, hs2⟩
            case round =>
              obtain ⟨q, rfl, hq, rfl, hi, hh, hs3⟩ := hrel
              have HI := Lib.hid hi
              have HH := Lib.hid hh
              have hel : (encF f (L.take q)).length ≤ 168 * q := by
                have := encF_len (L := L.take q) (fun y hy => ⟨HX.out y (List.mem_of_mem_take hy), by have h9 := HA.out; rw [List.all_eq_true] at h9; exact h9 y (List.mem_of_mem_take hy)⟩) f
                rw [List.length_take] at this
                omega
              clear hi
              by_cases hlt2 : (q : Int) < k
              · obtain ⟨b, off, x, rfl, hb, hx1, hc1⟩ := HS.out.at_ hh (k := q) (by omega)
                have x0 := hc1 0 _ rfl
                have x1 := hc1 1 _ rfl
                have x2 := hc1 2 _ rfl
                have x3 := hc1 3 _ rfl
                rw [Nat.add_zero] at x0
                have hqL : q < L.length := by have := HL.out; omega
                have hxe : L[q] = x := by rw [List.getElem?_eq_getElem hqL] at hx1; injection hx1
                have hxm : x ∈ L := hxe ▸ List.getElem_mem hqL
                have hxo := HX.out x hxm
                have hxk : okX x = true := by have h9 := HA.out; rw [List.all_eq_true] at h9; exact h9 x hxm
                obtain ⟨k1, k6, kd⟩ := ok_bd hxk
                have hle := last_le HOE.out.1 HOE.out.2 hqL
                have hln := lastT_next L f q hqL
                have hen := encF_next L f q hqL
                rw [hxe] at hle hln hen
                have hxt := hxo.t
                have hxn := hxo.n1
                have hxn2 := hxo.n2
                clear hxm hxo hxk hxe hx1 hc1 hh
                obtain ⟨t, kk, nn, d⟩ := x
                simp only at x0 x1 x2 x3 k1 k6 kd hle hln hen hxt hxn hxn2
                obtain ⟨kk, rfl⟩ := Int.eq_ofNat_of_zero_le (show 0 ≤ kk by omega)
                obtain ⟨nn, rfl⟩ := Int.eq_ofNat_of_zero_le hxn
                rw [len_eq] at kd
                generalize lastT f (L.take q) = lt at hle hen ⊢
                have HLN := Lib.hid hln
                have HEN := Lib.hid hen
                have hsub : IntKind.u64.wrap ((t : Int) - (lt : Int)) = ((t - lt : Nat) : Int) := by
                  rw [IntWalk.u64_in _ (by omega)]; omega
                have HP := Lib.hid (fun w => put_any (t - lt) (by omega) w)
                have hpl := Uv.put_len (t - lt) (by omega)
                have hpz := ba_size (Uv.put (t - lt))
                have HPZ := Lib.hid hpz
                have HQ := Lib.hid (fun w => encodeEvent_any kk nn d (by omega) (by omega) (by omega) kd w)
                have hql := encE_len (k := kk) (n := nn) (d := d.data.toList) (by omega) (by omega) (by omega) (by omega) (by rw [len_eq]; exact kd)
                have hcl : (pk ++ encF f (L.take q)).length ≤ 70000 := by rw [List.length_append]; omega
                have hcl2 : Hid ((pk ++ encF f (L.take q)).length + (Uv.put (t - lt)).length ≤ 80000) := show _ ≤ _ by omega
                have BX : Hid (BoxE wr.heap.size ⟨t, kk, nn, d⟩ (wr.alloc (.cells #[.int .u64 (t : Int), .int .i64 kk, .int .u32 nn, .string d] 106))) := BoxE.new ⟨t, kk, nn, d⟩ wr
                clear hln hen hpz
                go_wp2_with fail
                refine (HP.out _).mono ?_
                rintro e w3 ⟨rfl, h3⟩
                have B3 := Lib.hid (HI.out.held (Held.step ((Held.refl wr).alloc _) h3))
                have X3 := Lib.hid (BX.out.held h3)
                have W3 := Lib.hid ((HH.out.alloc (.cells #[.int .u64 (t : Int), .int .i64 kk, .int .u32 nn, .string d] 106)).step h3)
                have hs4 : bb < w3.heap.size := by have := h3.size; simp at this; omega
                have hnb : Hid (¬ wr.heap.size = bb) := by show ¬ _; omega
                obtain ⟨z0, z1, z2, z3⟩ := X3.out.cells
                clear h3 HP BX hsub
                go_wp2_with fail
                refine (Bld.write_any bb _ _ w3 B3.out (by rw [HPZ.out]; omega) (by omega)).mono ?_
                rintro e w4 ⟨rfl, i4, k4⟩
                have B4 := Lib.hid i4
                have X4 := Lib.hid (X3.out.kept k4 hnb.out)
                have W4 := Lib.hid (k4.heldOf W3.out hb0.out)
                have hs5 : bb < w4.heap.size := by have := k4.1.size; omega
                clear z0 z1 z2 z3 i4 k4 B3 X3 W3
                obtain ⟨z0, z1, z2, z3⟩ := X4.out.cells
                go_wp2_with fail
                refine (HQ.out _).mono ?_
                rintro e w5 ⟨rfl, h5⟩
                have B5 := Lib.hid (B4.out.held h5)
                have W5 := Lib.hid (W4.out.step h5)
                have hs6 : bb < w5.heap.size := by have := h5.size; omega
                clear z0 z1 z2 z3 h5 B4 X4 W4
                go_wp2_with fail
                refine (Bld.write_any bb _ ⟨(encE kk nn d.data.toList).toArray⟩ w5 B5.out (by rw [ba_size]; have := hcl2.out; simp only [List.length_append] at this ⊢; omega) (by omega)).mono ?_
                rintro e w6 ⟨rfl, i6, k6'⟩
                have B6 : Hid (Bld.Is bb (pk ++ encF f (L.take (q + 1))) w6) := show Bld.Is _ _ _ by
                  rw [HEN.out]; simpa using i6
                have W6 := Lib.hid (k6'.heldOf W5.out hb0.out)
                have hs7 : bb < w6.heap.size := by have := k6'.1.size; omega
                clear i6 k6' B5 W5
                go_wp2
                go_roundw
                case rel => exact ⟨q + 1, by go_num, by omega, by rw [HLN.out], B6.out, W6.out, hs7⟩
                case measure => (simp [intOf]) <;> omega
              · obtain rfl : q = k := by omega
                have htk : L.take q = L := by rw [← HL.out, List.take_length]
                have hcl : (pk ++ encF f L).length ≤ 70000 := by rw [htk] at hel; rw [List.length_append]; omega
                rw [htk] at HI
                clear hh hel htk
                have hcc : Uv.put L.length ++ encF f L = pk ++ encF f L := by rw [HLK.out]
                by_cases h65 : 65536 < (pk ++ encF f L).length
                · have HE := Lib.hid (enc_big (f := f) HN.out HA.out (by simp [HOE.out.1, HOE.out.2]) (by rw [hcc]; exact h65))
                  clear hcc
                  obtain ⟨r, hr⟩ : ∃ r, pk ++ encF f L = r := ⟨_, rfl⟩
                  rw [hr] at HI h65 hcl
                  have h65' : (65536 : Int) < r.length := by omega
                  clear hr
                  go_wp2_with fail
                  refine (Bld.len_any bb r wr HI.out).mono ?_
                  rintro e w3 ⟨rfl, rfl⟩
                  go_wp2
                  go_ret2
                  exact EncTo.mk HE.out HH.out
                · have HE := Lib.hid (enc_yes (f := f) HN.out HA.out (by simp [HOE.out.1, HOE.out.2]) (by rw [hcc]; exact h65))
                  rw [hcc] at HE
                  clear hcc
                  obtain ⟨r, hr⟩ : ∃ r, pk ++ encF f L = r := ⟨_, rfl⟩
                  rw [hr] at HI HE h65 hcl
                  have h65' : ¬ (65536 : Int) < r.length := by omega
                  clear hr
                  go_wp2_with fail
                  refine (Bld.len_any bb r wr HI.out).mono ?_
                  rintro e w3 ⟨rfl, rfl⟩
                  go_wp2_with fail
                  refine (Bld.string_any bb r _ HI.out (by omega)).mono ?_
                  rintro e w4 ⟨rfl, i4, k4⟩
                  have W4 := Lib.hid (k4.heldOf HH.out hb0.out)
                  clear i4 k4
                  go_wp2
                  go_ret2
                  exact EncTo.mk (by rw [HE.out]) W4.out
          · have HE := Lib.hid (enc_order HN.out HA.out ho)
            clear ho
            go_wp2
            go_ret2
            exact EncTo.mk HE.out HH.out
end Enc
end Go.Proofs.Ythpjbffhdaaibaa

set_option linter.unusedVariables false
namespace Go.Proofs.Ythpjbffhdaaibaa
open Go.RowKit
theorem flat_set {α : Type} {s : Nat} {f : α → List Value} (hf : ∀ x, (f x).length = s) : ∀ (L : List α) (k : Nat) (hk : k < L.length) (i : Nat) (u : Value) (x : α), i < s → f x = (f L[k]).set i u → (L.set k x).flatMap f = (L.flatMap f).set (k * s + i) u
  | [], k, hk, _, _, _, _, _ => by simp at hk
  | y :: L, 0, hk, i, u, x, hi, hx => by
    simp only [List.set_cons_zero, List.flatMap_cons, Nat.zero_mul, Nat.zero_add]
    rw [List.set_append, if_pos (by rw [hf]; exact hi)]
    congr 1
  | y :: L, k + 1, hk, i, u, x, hi, hx => by
    have hk' : k < L.length := by simpa using hk
    simp only [List.set_cons_succ, List.flatMap_cons]
    rw [flat_set hf L k hk' i u x hi (by simpa using hx), List.set_append, if_neg (by rw [hf, Nat.add_mul]; omega), hf]
    congr 2
    rw [Nat.add_mul]; omega
/-- The block of a row of the call's own that is not empty, and each of its cells. -/
theorem Own.slot {α : Type} {e : TypeId} {s : Nat} {f : α → List Value} (hf : ∀ x, (f x).length = s) {base : Nat} {w : World} {A : Option Addr} {n cap : Nat} {L : List α} (h : Own e s f base w (.slice A n cap) L) (hs : 0 < s) {k : Nat} (hk : k < L.length) :
    ∃ g, A = some ⟨g, 0, none⟩ ∧ base ≤ g ∧ g < w.heap.size ∧ ∀ i, i < s → w.frozen? ⟨g, k * s + i, none⟩ = false ∧ ∀ v, (f L[k])[i]? = some v → w.cell? ⟨g, k * s + i, none⟩ = some v := by
  have hfl : (L.flatMap f).length = L.length * s := flat_len hf L
  rcases h.2 with ⟨he, h0⟩ | ⟨g, cp, cur, he, q1, q2, q3, q4, q5, q6⟩
  · omega
  · injection he with e1 e2 e3
    subst e1
    refine ⟨g, rfl, q1, (Array.getElem?_eq_some_iff.1 q2).1, fun i hi => ⟨by simp [World.frozen?, q2], fun v hv => ?_⟩⟩
    have hfa := flat_at hf L k hk i hi
    rw [hv] at hfa
    have hlt : k * s + i < L.length * s := by
      have := (List.getElem?_eq_some_iff.1 hfa).1
      omega
    rw [← q6, List.getElem?_take, if_pos (by exact hlt)] at hfa
    simp only [World.cell?, q2]
    simpa using hfa
/-- A cell of such a row, stored. -/
theorem Own.put {α : Type} {e : TypeId} {s : Nat} {f : α → List Value} (hf : ∀ x, (f x).length = s) {base : Nat} {w : World} {g n cap : Nat} {L : List α} (h : Own e s f base w (.slice (some ⟨g, 0, none⟩) n cap) L) {k : Nat} (hk : k < L.length) {i : Nat} (hi : i < s) (u : Value) (x : α)
    (hx : f x = (f L[k]).set i u) : Own e s f base (w.setCell ⟨g, k * s + i, none⟩ u) (.slice (some ⟨g, 0, none⟩) n cap) (L.set k x) := by
  have hfl : (L.flatMap f).length = L.length * s := flat_len hf L
  refine ⟨by rw [List.length_set]; exact flat_len hf _ |>.trans (by rw [List.length_set]), .inr ?_⟩
  rcases h.2 with ⟨he, h0⟩ | ⟨g', cp, cur, he, q1, q2, q3, q4, q5, q6⟩
  · cases he
  · injection he with e1 e2 e3
    injection e1 with e1
    injection e1 with e1
    subst e1 e2 e3
    refine ⟨g, cap, cur.setIfInBounds (k * s + i) u, ?_, q1, ?_, ?_, q4, ?_, ?_⟩
    · rw [List.length_set]
    · simp only [World.setCell]
      rw [Array.getElem?_modify, if_pos rfl, q2]; rfl
    · rw [List.length_set]; exact q3
    · rw [Array.size_setIfInBounds]; exact q5
    · rw [flat_set hf L k hk i u x hi hx, ← q6, List.length_set, Array.toList_setIfInBounds, List.take_set]
/-- A row is not touched by a store elsewhere. -/
theorem Own.far {α : Type} {e : TypeId} {s : Nat} {f : α → List Value} {base : Nat} {w : World} {v : Value} {L : List α} (h : Own e s f base w v L) {c j : Nat} {u : Value} (hc : v.ownBlock ≠ some c) : Own e s f base (w.setCell ⟨c, j, none⟩ u) v L := by
  refine ⟨h.1, h.2.imp id ?_⟩
  rintro ⟨g, cp, cur, rfl, q1, q2, q3⟩
  refine ⟨g, cp, cur, rfl, q1, ?_, q3⟩
  simp only [World.setCell]
  rw [Array.getElem?_modify, if_neg (fun e => hc (by rw [e]; rfl))]
  exact q2
end Go.Proofs.Ythpjbffhdaaibaa
