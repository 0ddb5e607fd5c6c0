/-
  The lines of StreamDelivers: what they carry, and what a call leaves on them (chapter 24).
-/
import Derived.Test.YthpjbffhdaaibaaZxStY
import Derived.Test.YthpjbffhdaaibaaZxStU
set_option linter.unusedVariables false
set_option linter.unusedSimpArgs false
set_option maxRecDepth 100000
namespace Go.Proofs.Ythpjbffhdaaibaa
open Go.RowKit Go.BigFrame Go.Sort Go.Lib
namespace Mem
variable {W w : World} {H : List Ck}
theorem put2 (h : Mem W w H) (i : Nat) {b : Nat} {a0 a1 : Value} {t : TypeId} (hi : H[i]? = some (.box b #[a0, a1] t)) (x0 x1 : Value) :
    Mem W ((w.setCell ⟨b, 0, none⟩ x0).setCell ⟨b, 1, none⟩ x1) (H.set i (.box b #[x0, x1] t)) := by
  have hl := (List.getElem?_eq_some_iff.1 hi).1
  have h1 := h.put i hi 0 x0
  have h2 := h1.put i (by rw [List.getElem?_set_self hl]) 1 x1
  rw [List.set_set] at h2
  exact h2
end Mem
namespace St
open Enc Uv Lg Lgc Strs
theorem Sgs.put2 {B b : Nat} {w : World} {R : List SR} (h : Sgs B w R) (k : Blk B w b) (x0 x1 : Value) : Sgs B ((w.setCell ⟨b, 0, none⟩ x0).setCell ⟨b, 1, none⟩ x1) R := (h.put1 k 0 x0).put1 k.put 1 x1
theorem Ers.put2 {B b : Nat} {w : World} {R : List ErR} (h : Ers B w R) (k : Blk B w b) (x0 x1 : Value) : Ers B ((w.setCell ⟨b, 0, none⟩ x0).setCell ⟨b, 1, none⟩ x1) R := (h.put1 k 0 x0).put1 k.put 1 x1
/-- All segments that the law has can be read. -/
structure All (w : World) (R RQ RD RN : List SR) (RE : List ErR) : Prop where
  r : Sgs 0 w R
  q : Sgs 0 w RQ
  d : Sgs 0 w RD
  n : Sgs 0 w RN
  e : Ers 0 w RE
namespace All
variable {w w' : World} {R RQ RD RN : List SR} {RE : List ErR}
theorem held (h : All w R RQ RD RN RE) (k : Held w w') : All w' R RQ RD RN RE := ⟨h.r.held k, h.q.held k, h.d.held k, h.n.held k, h.e.held k⟩
theorem chg (h : All w R RQ RD RN RE) {g : Option Nat} (k : Chg 106 0 w w' g) : All w' R RQ RD RN RE := ⟨h.r.chg k, h.q.chg k, h.d.chg k, h.n.chg k, h.e.chg k⟩
theorem put2 {b : Nat} (h : All w R RQ RD RN RE) (k : Blk 0 w b) (x0 x1 : Value) : All ((w.setCell ⟨b, 0, none⟩ x0).setCell ⟨b, 1, none⟩ x1) R RQ RD RN RE := ⟨h.r.put2 k _ _, h.q.put2 k _ _, h.d.put2 k _ _, h.n.put2 k _ _, h.e.put2 k _ _⟩
theorem put3 {b : Nat} (h : All w R RQ RD RN RE) (k : Blk 0 w b) (x0 x1 x2 : Value) : All (((w.setCell ⟨b, 0, none⟩ x0).setCell ⟨b, 1, none⟩ x1).setCell ⟨b, 2, none⟩ x2) R RQ RD RN RE := ⟨h.r.put3 k _ _ _, h.q.put3 k _ _ _, h.d.put3 k _ _ _, h.n.put3 k _ _ _, h.e.put3 k _ _ _⟩
theorem put4 {b : Nat} (h : All w R RQ RD RN RE) (k : Blk 0 w b) (x0 x1 x2 x3 : Value) : All ((((w.setCell ⟨b, 0, none⟩ x0).setCell ⟨b, 1, none⟩ x1).setCell ⟨b, 2, none⟩ x2).setCell ⟨b, 3, none⟩ x3) R RQ RD RN RE :=
  ⟨h.r.put4 k _ _ _ _, h.q.put4 k _ _ _ _, h.d.put4 k _ _ _ _, h.n.put4 k _ _ _ _, ((h.e.put3 k _ _ _).put1 k.put.put.put 3 x3)⟩
theorem cat (h : All w R RQ RD RN RE) : All w R RQ (RD ++ RN) [] RE := ⟨h.r, h.q, h.d.cat h.n, Sgs.nil _ _, h.e⟩
theorem rcv (h : All w R RQ RD RN RE) (k : Held w w') {R4 : List ErR} {D4 : List SR} (e : Ers 0 w' R4) (d : Sgs 0 w' D4) : All w' R RQ RD D4 R4 := ⟨h.r.held k, h.q.held k, h.d.held k, d, e⟩
theorem snd (h : All w R RQ RD RN RE) (k : Held w w') {R4 : List SR} (d : Sgs 0 w' R4) : All w' R R4 RD RN RE := ⟨h.r.held k, d, h.d.held k, h.n.held k, h.e.held k⟩
end All
theorem mem_cutAt {P : List ByteArray} {i : Nat} {x : ByteArray} (h : x ∈ cutAt P i) : x ∈ P := (List.mem_append.1 h).elim List.mem_of_mem_take List.mem_of_mem_drop
theorem cutAt_len {P : List ByteArray} {i : Nat} : (cutAt P i).length ≤ P.length := by unfold cutAt; rw [List.length_append, List.length_take, List.length_drop]; omega
theorem cutAt_set {P : List ByteArray} {i : Nat} {y : ByteArray} : cutAt (P.set i y) i = cutAt P i := by
  unfold cutAt
  rw [List.take_set_of_le (Nat.le_refl _), List.drop_set_of_lt (by omega)]
/-- A link of the call's own, all of whose packets are of a kind. -/
def LinkP (Q : ByteArray → Prop) (w : World) (e : Ending) (w' : World) : Prop := ∃ A n cap b P, e = .returned (.tuple #[.agg #[.slice A n cap, .bool false], .bool b]) ∧ (∀ x ∈ P, Q x) ∧ n ≤ 24 ∧ Own 9 1 stC w.heap.size w' (.slice A n cap) P ∧ Held w w'
theorem LinkOk.q {Q : ByteArray → Prop} {P : List ByteArray × Bool} (h : ∀ x ∈ P.1, Q x) (hn : P.1.length ≤ 24) {w : World} {e : Ending} {w' : World} (k : LinkOk P w e w') : LinkP Q w e w' := by
  obtain ⟨A, n, cap, rfl, o, hh⟩ := k
  exact ⟨A, n, cap, P.2, P.1, rfl, h, by have := (Own.reads stC_len o).2.1; omega, o, hh⟩
def LinkDelP (Q : ByteArray → Prop) (w : World) (e : Ending) (w' : World) : Prop := ∃ A n cap s b P, e = .returned (.tuple #[.agg #[.slice A n cap, .bool false], .string s, .bool b]) ∧ (∀ x ∈ P, Q x) ∧ (b = true → Q s) ∧ n ≤ 24 ∧ Own 9 1 stC w.heap.size w' (.slice A n cap) P ∧ Held w w'
theorem LinkDel.q {Q : ByteArray → Prop} {P : List ByteArray} {s : ByteArray} {b : Bool} (h : ∀ x ∈ P, Q x) (hs : b = true → Q s) (hn : P.length ≤ 24) {w : World} {e : Ending} {w' : World} (k : LinkDel P s b w e w') : LinkDelP Q w e w' := by
  obtain ⟨A, n, cap, rfl, o, hh⟩ := k
  exact ⟨A, n, cap, s, b, P, rfl, h, hs, by have := (Own.reads stC_len o).2.1; omega, o, hh⟩
theorem own_args {base : Nat} {w : World} {A : Option Addr} {n cap : Nat} {P : List ByteArray} (h : Own 9 1 stC base w (.slice A n cap) P) : Sl 1 stC w A n P ∧ (A = none → n = 0) ∧ n ≤ cap ∧ cap ≤ maxLen ∧ P.length = n := by
  obtain ⟨A', cap', he, h1, h2⟩ := h.shape
  injection he with e1 e2 e3
  subst e1 e2 e3
  exact ⟨(Own.reads stC_len h).1, fun e => by subst e; exact own_nil h, h1, h2, rfl⟩
theorem lsend_q {Q : ByteArray → Prop} {base : Nat} {w : World} {A : Option Addr} {n cap : Nat} {P : List ByteArray} (h : Own 9 1 stC base w (.slice A n cap) P) (hn : n ≤ 24) (hQ : ∀ x ∈ P, Q x) (w' : World) (k : Held w w') (s : ByteArray) (hs : Q s) : Calls Try.prog 22 #[.agg #[.slice A n cap, .bool false], .string s] w' (LinkP Q w') := by
  obtain ⟨h1, h2, h3, h4, h5⟩ := own_args h
  refine (lsend_any A n cap P s w' (h1.held k) h2 hn h3 h4).mono fun e w2 q => ?_
  unfold lsend at q
  split at q
  · exact q.q hQ (by simp only; omega)
  · refine q.q (fun x hx => ?_) (by simp only [List.length_append, List.length_singleton]; omega)
    rcases List.mem_append.1 hx with hx | hx
    · exact hQ x hx
    · rw [List.mem_singleton] at hx; subst hx; exact hs
section
variable {Q : ByteArray → Prop} {base : Nat} {w : World} {A : Option Addr} {n cap : Nat} {P : List ByteArray} (h : Own 9 1 stC base w (.slice A n cap) P) (hn : n ≤ 24) (hQ : ∀ x ∈ P, Q x) (i : Nat) (hi : i ≤ 1000) (w' : World) (k : Held w w')
include h hn hQ hi k
theorem llose_q : Calls Try.prog 25 #[.agg #[.slice A n cap, .bool false], .int .i64 (i : Int)] w' (LinkP Q w') := by
  obtain ⟨h1, h2, h3, h4, h5⟩ := own_args h
  refine (lose_any A n cap i P w' (h1.held k) h2 hn h3 h4 hi).mono fun e w2 q => ?_
  unfold llose at q
  split at q
  · exact q.q (fun x hx => hQ x (mem_cutAt hx)) (Nat.le_trans cutAt_len (by omega))
  · exact q.q hQ (by simp only; omega)
theorem ldup_q : Calls Try.prog 24 #[.agg #[.slice A n cap, .bool false], .int .i64 (i : Int)] w' (LinkP Q w') := by
  obtain ⟨h1, h2, h3, h4, h5⟩ := own_args h
  by_cases hlt : i < n ∧ n < 24
  · have hp : P[i]? = some (P[i]'(by omega)) := List.getElem?_eq_getElem (by omega)
    refine (dup_yes A n cap i P _ w' (h1.held k) h2 hlt.2 h3 h4 hlt.1 hp).mono fun e w2 q => ?_
    refine q.q (fun x hx => ?_) (by simp only [List.length_append, List.length_singleton]; omega)
    rcases List.mem_append.1 hx with hx | hx
    · exact hQ x hx
    · rw [List.mem_singleton] at hx; subst hx; exact hQ _ (List.getElem_mem _)
  · exact (dup_no A n cap i P w' (h1.held k) h2 hn hi hlt).mono fun e w2 q => q.q hQ (by simp only; omega)
theorem ldeliver_q : Calls Try.prog 23 #[.agg #[.slice A n cap, .bool false], .int .i64 (i : Int)] w' (LinkDelP Q w') := by
  obtain ⟨h1, h2, h3, h4, h5⟩ := own_args h
  by_cases hlt : i < n
  · have hp : P[i]? = some (P[i]'(by omega)) := List.getElem?_eq_getElem (by omega)
    exact (deliver_yes A n cap i P _ w' (h1.held k) h2 hn h3 h4 hlt hp).mono fun e w2 q => q.q (fun x hx => hQ x (mem_cutAt hx)) (fun _ => hQ _ (List.getElem_mem _)) (Nat.le_trans cutAt_len (by omega))
  · exact (deliver_no A n cap i P w' (h1.held k) h2 hn hi hlt).mono fun e w2 q => q.q hQ (fun h => by cases h) (by omega)
end
/-- A packet of the stream. -/
def QF (G : List Seg) (x : ByteArray) : Prop := ∃ i, ∃ h : i < G.length, x.data.toList = dataP (i + 1) G[i]
/-- An acknowledgement of at most so many. -/
def QB (at_ : Nat) (G : List Seg) (K : Nat) (x : ByteArray) : Prop := ∃ j, j ≤ K ∧ x.data.toList = ackP (j + 1) (pos at_ G j)
theorem QB.mono {at_ : Nat} {G : List Seg} {K K' : Nat} (h : K ≤ K') {x : ByteArray} (q : QB at_ G K x) : QB at_ G K' x := let ⟨j, hj, e⟩ := q; ⟨j, Nat.le_trans hj h, e⟩
/-- A packet of which one bit is flipped is not taken. -/
theorem flip_bad {G : List Seg} {p : ByteArray} (h : QF G p) (hG : G.length ≤ 1000) (hin : ∀ i (h : i < G.length), SegIn G[i]) (bit : Int) (R : Rcv) : take R (flipped p bit).data.toList = (R, [], false) := by
  obtain ⟨i, hi, hp⟩ := h
  have hb := body_len G[i] (hin i hi)
  refine take_bad ?_
  have hd : (flipped p bit).data.toList = p.data.toList.set (bitOf p bit / 8) (Flip.turn (p.data.toList.getD (bitOf p bit / 8) 0) (bitOf p bit % 8)) := rfl
  have hps : p.size = p.data.toList.length := by simp
  have hl : 0 < p.size := by
    rw [hps, hp]; unfold dataP packed; simp only [List.length_append, be8_len]; omega
  have hk : bitOf p bit / 8 < p.size := by
    have : bitOf p bit < 8 * p.size := Nat.mod_lt _ (by omega)
    omega
  rw [hd, hp]
  rw [hps, hp] at hk
  unfold dataP at hk ⊢
  refine packed_set _ _ _ hk _ ?_ (by rw [List.length_cons]; omega)
  rw [List.getD_eq_getElem?_getD, List.getElem?_eq_getElem hk, Option.getD_some]
  exact Flip.turn_ne _ _ (Nat.mod_lt _ (by omega))
/-- A packet of the stream arrives, or one with a flipped bit. -/
theorem take_step {at_ : Nat} {G : List Seg} (h : Ch at_ G) {k m : Nat} {E : List Er} (e : EI at_ G k m E) (hm : m ≤ 8) (hmg : m = G.length) (hk : k ≤ m) {s : ByteArray} (hs : QF G s ∨ ∃ p bit, QF G p ∧ s = flipped p bit) :
    ∃ k' E' ok, k ≤ k' ∧ k' ≤ m ∧ EI at_ G k' m E' ∧ take (rcvAt at_ G k E) s.data.toList = (rcvAt at_ G k' E', (G.drop k).take (k' - k), ok) := by
  rcases hs with ⟨i, hi, hp⟩ | ⟨p, bit, hp, rfl⟩
  · obtain ⟨k', E', h1, h2, h3, h4, _⟩ := take_at h e hm (by omega) hk (i := i) (by omega)
    exact ⟨k', E', true, h1, h2, h3, by rw [hp]; exact h4⟩
  · exact ⟨k, E, false, Nat.le_refl _, hk, e, by rw [flip_bad hp (by omega) h.inn bit]; simp⟩
theorem got_step {R RD D4 : List SR} {K K' : Nat} (h : K ≤ K') (hg : gs RD = (gs R).take K) (hd : gs D4 = ((gs R).drop K).take (K' - K)) : gs (RD ++ D4) = (gs R).take K' := by
  have e1 : gs (RD ++ D4) = gs RD ++ gs D4 := List.map_append
  have e2 : (gs R).take (K + (K' - K)) = (gs R).take K ++ ((gs R).drop K).take (K' - K) := List.take_add
  rw [e1, hg, hd, ← e2, show K + (K' - K) = K' by omega]
/-- An acknowledgement arrives. -/
theorem ack_step {at_ : Nat} {G : List Seg} (h : Ch at_ G) (hat : at_ < 18446744073709551616) {a p K : Nat} (haK : a ≤ K) (hKp : K ≤ p) (hp : p = G.length) (h8 : p ≤ 8) {s : ByteArray} (hs : QB at_ G K s) :
    ∃ a' ok, a' ≤ K ∧ acked (sndAt at_ G a p) s.data.toList = (sndAt at_ G a' p, ok) := by
  obtain ⟨j, hj, e⟩ := hs
  have := acked_at h hat (a := a) (p := p) (j := j) (by omega) (by omega) (by omega) (by omega) (by omega)
  rw [e, this]
  by_cases hlt : a < j
  · rw [if_pos hlt]; exact ⟨j, true, hj, rfl⟩
  · rw [if_neg hlt]; exact ⟨a, false, haK, rfl⟩
theorem pk_mem {at_ : Nat} {G : List Seg} (h : Ch at_ G) {a p : Nat} (hap : a ≤ p) (hp : p = G.length) (h8 : p ≤ 8) : (strs (packets (sndAt at_ G a p))).length = p - a ∧ ∀ x ∈ strs (packets (sndAt at_ G a p)), QF G x := by
  rw [packets_at h hap (by omega) (by omega) (by omega)]
  unfold strs
  refine ⟨by rw [List.length_map, List.length_map, List.length_range], fun x hx => ?_⟩
  rw [List.map_map, List.mem_map] at hx
  obtain ⟨i, hi, rfl⟩ := hx
  have hi := List.mem_range.1 hi
  refine ⟨a + i, by omega, ?_⟩
  simp only [Function.comp]
  rw [List.getD_eq_getElem?_getD, List.getElem?_eq_getElem (by omega)]; rfl
theorem QB.size {at_ : Nat} {G : List Seg} {K : Nat} {x : ByteArray} (h : Ch at_ G) (hat : at_ < 18446744073709551616) (hK : K ≤ G.length) (h8 : G.length ≤ 1000) (q : QB at_ G K x) : x.size ≤ 1000 := by
  obtain ⟨j, hj, e⟩ := q
  have hps : x.size = x.data.toList.length := by simp
  have hpl := h.lt hat (i := j) (by omega)
  have h1 := put_len (j + 1) (by omega)
  have h2 := put_len (pos at_ G j) hpl
  have h3 := put_len (65 :: put (pos at_ G j)).length (by rw [List.length_cons]; omega)
  rw [hps, e]
  unfold ackP packed
  simp only [List.length_append, be8_len, List.length_cons] at h3 ⊢
  omega
theorem flip_size (p : ByteArray) (bit : Int) : (flipped p bit).size = p.size := by
  unfold flipped
  rw [ba_size, List.length_set]; simp
theorem QF.size {G : List Seg} {p : ByteArray} (h : QF G p) (hG : G.length ≤ 1000) (hin : ∀ i (h : i < G.length), SegIn G[i]) : 0 < p.size ∧ p.size ≤ 100000 := by
  obtain ⟨i, hi, hp⟩ := h
  have hps : p.size = p.data.toList.length := by simp
  have h1 := dataP_len (n := i + 1) (by omega) (hin i hi)
  refine ⟨?_, by rw [hps, hp]; exact h1⟩
  rw [hps, hp]; unfold dataP packed; simp only [List.length_append, be8_len]; omega
end St
end Go.Proofs.Ythpjbffhdaaibaa
