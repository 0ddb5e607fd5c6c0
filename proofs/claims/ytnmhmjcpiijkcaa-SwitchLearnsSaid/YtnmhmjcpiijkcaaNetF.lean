/-
  Contract of network.Forward (chapter 33), at switches that are valid.
-/
import Derived.Test.YtnmhmjcpiijkcaaNet
import Derived.Maps.AppendAt
set_option linter.unusedVariables false
set_option maxRecDepth 100000
namespace Go.Proofs.Ytnmhmjcpiijkcaa
open Go.RowKit
namespace Net
def intC (x : Int) : List Value := [.int .i64 x]
theorem intC_len (x : Int) : (intC x).length = 1 := rfl
theorem intC_one (x : Int) : ∀ u ∈ intC x, u.oneCell' = true := by
  intro u hu
  simp only [intC, List.mem_cons, List.not_mem_nil, or_false] at hu
  subst hu; rfl
theorem int_info : (Try.prog.info? 3).map (fun i => (i.zero, i.size, i.bytes)) = some (some (.int .i64 0), 1, 8) := by kernel_rfl
theorem idx (s : ByteArray) (n : Int) (k : Nat) (hn : n = k) (hk : k < s.size) : ∀ w, (Instr.index 9 (.string s) (.int .i64 n)).run Try.prog w = .ok (.int .u8 (s[k].toNat : Int)) w := by
  intro w
  subst hn
  rw [run_index_string w _ s .i64 k Try.underlying9]
  simp [hk]
theorem addr_any (f : ByteArray) (w : World) (h1 : 2 ≤ f.size) (h2 : f.size ≤ 128) (to fr : Nat) (hto : f[0].toNat = to) (hfr : f[1].toNat = fr) :
    Calls Try.prog 17 #[.string f] w fun e w' => e = .returned (.tuple #[.int .u8 (to : Int), .int .u8 (fr : Int), .bool true]) ∧ Held w w' := by
  have g1 : ¬ (f.size : Int) < 2 := by omega
  have g2 : ¬ (128 : Int) < (f.size : Int) := by omega
  have g3 : (0 : Int) < f.size := by omega
  have g4 : (1 : Int) < f.size := by omega
  have e0 := idx f 0 0 rfl (by omega)
  have e1 := idx f 1 1 rfl (by omega)
  rw [hto] at e0
  rw [hfr] at e1
  clear hto hfr
  go_enter Try.func17, Try.ntmps17
  go_wp2
  go_quiet (fail)
  go_wp2
  go_ret3
  exact ⟨rfl, (Held.refl w).drewN _⟩
theorem bcell {W w1 : World} (hb : Held W w1) : (∀ b o, b < W.heap.size → w1.cell? ⟨b, o, none⟩ = W.cell? ⟨b, o, none⟩) ∧ (∀ b o, b < W.heap.size → w1.frozen? ⟨b, o, none⟩ = W.frozen? ⟨b, o, none⟩) :=
  ⟨fun b o h => Below.cell (p := ⟨b, o, none⟩) hb h, fun b o h => Below.frozen (p := ⟨b, o, none⟩) hb h⟩
/-- What a frame's sending leaves: the switch, the ports. -/
def Fw (W : World) (P : Int) (M : List Lr) (O : List Int) (r : Ending) (w' : World) : Prop :=
  ∃ tv ov, r = .returned (.tuple #[.agg #[.int .i64 P, tv], ov]) ∧ Own 35 2 lrC W.heap.size w' tv M ∧ Own 3 1 intC W.heap.size w' ov O ∧ Held W w'
theorem Fw.mk {W w' : World} {P : Int} {M : List Lr} {O : List Int} {tv ov : Value} (h1 : Own 35 2 lrC W.heap.size w' tv M) (h2 : Own 3 1 intC W.heap.size w' ov O) (h3 : Held W w') : Fw W P M O (.returned (.tuple #[.agg #[.int .i64 P, tv], ov])) w' := ⟨tv, ov, rfl, h1, h2, h3⟩
/-- Forward on its way: the box of the switch, the result's, the new switch's (R), its table. -/
structure Fx (W : World) (R : Nat) (P : Int) (A : Option Addr) (n cap : Nat) (tv : Value) (M : List Lr) (w : World) : Prop where
  bx : w.heap[W.heap.size]? = some (.cells #[.int .i64 P, .slice A n cap] 26 (0, 0))
  rs : w.heap[W.heap.size + 1]? = some (.cells #[.int .i64 0, .slice none 0 0] 26 (0, 0))
  rv : w.heap[R]? = some (.cells #[.int .i64 P, tv] 26 (0, 0))
  ge : W.heap.size + 2 ≤ R
  own : Own 35 2 lrC W.heap.size w tv M
  ap : ∀ g, tv.ownBlock = some g → g ≠ R ∧ W.heap.size + 2 ≤ g
  held : Held W w
namespace Fx
variable {W w : World} {R : Nat} {P : Int} {A : Option Addr} {n cap : Nat} {tv : Value} {M : List Lr}
theorem lt (h : Fx W R P A n cap tv M w) : R < w.heap.size := (Array.getElem?_eq_some_iff.1 h.rv).1
theorem cells (h : Fx W R P A n cap tv M w) : w.cell? ⟨W.heap.size, 0, none⟩ = some (.int .i64 P) ∧ w.cell? ⟨W.heap.size, 1, none⟩ = some (.slice A n cap) ∧ w.cell? ⟨W.heap.size + 1, 0, none⟩ = some (.int .i64 0) ∧ w.cell? ⟨W.heap.size + 1, 1, none⟩ = some (.slice none 0 0) ∧
    w.cell? ⟨R, 0, none⟩ = some (.int .i64 P) ∧ w.cell? ⟨R, 1, none⟩ = some tv ∧ w.frozen? ⟨R, 1, none⟩ = false ∧ w.frozen? ⟨W.heap.size + 1, 0, none⟩ = false ∧ w.frozen? ⟨W.heap.size + 1, 1, none⟩ = false := by
  have h1 := h.bx
  have h2 := h.rs
  have h3 := h.rv
  exact ⟨by simp [World.cell?, h1], by simp [World.cell?, h1], by simp [World.cell?, h2], by simp [World.cell?, h2], by simp [World.cell?, h3], by simp [World.cell?, h3], by simp [World.frozen?, h3], by simp [World.frozen?, h2], by simp [World.frozen?, h2]⟩
theorem keep {w' : World} (h : Fx W R P A n cap tv M w) (k : Held w w') : Fx W R P A n cap tv M w' := by
  have h1 := h.lt
  have h2 := h.ge
  exact ⟨(k.block _ (by omega)).trans h.bx, (k.block _ (by omega)).trans h.rs, (k.block _ h1).trans h.rv, h2, Own.held h.own k, h.ap, h.held.step k⟩
theorem slot {w' : World} {tv' : Value} (h : Fx W R P A n cap tv M w) (k : Sg.Kp w tv w' tv') : w'.cell? ⟨R, 1, none⟩ = some tv ∧ w'.frozen? ⟨R, 1, none⟩ = false := by
  have h1 : w'.heap[R]? = w.heap[R]? := k.rest R h.lt (fun e => (h.ap R e.symm).1 rfl)
  have h3 := h.rv
  exact ⟨by simp [World.cell?, h1, h3], by simp [World.frozen?, h1, h3]⟩
/-- The table behind 'learn', stored back. -/
theorem put {w' : World} {tv' : Value} {M' : List Lr} (h : Fx W R P A n cap tv M w) (ho : Own 35 2 lrC W.heap.size w' tv' M') (hh : Held W w') (k : Sg.Kp w tv w' tv') : Fx W R P A n cap tv' M' (w'.setCell ⟨R, 1, none⟩ tv') := by
  have h1 := h.lt
  have h2 := h.ge
  have hap : ∀ g, tv'.ownBlock = some g → g ≠ R ∧ W.heap.size + 2 ≤ g := by
    intro g hg
    rcases k.moved g hg with h3 | h3
    · exact h.ap g h3
    · exact ⟨by omega, by omega⟩
  have hold : ∀ b, b < w.heap.size → b = R ∨ b < W.heap.size + 2 → w'.heap[b]? = w.heap[b]? := by
    intro b hb hc
    refine k.rest b hb (fun e => ?_)
    have := h.ap b e.symm
    omega
  have hset : ∀ b, b ≠ R → (w'.setCell ⟨R, 1, none⟩ tv').heap[b]? = w'.heap[b]? := by
    intro b hb
    simp only [World.setCell]
    rw [Array.getElem?_modify, if_neg (fun e => hb e.symm)]
  refine ⟨?_, ?_, ?_, h2, ?_, hap, hh.set (by show W.heap.size ≤ R; omega) _⟩
  · rw [hset _ (by omega), hold _ (by omega) (.inr (by omega))]; exact h.bx
  · rw [hset _ (by omega), hold _ (by omega) (.inr (by omega))]; exact h.rs
  · simp only [World.setCell]
    rw [Array.getElem?_modify, if_pos rfl, hold _ h1 (.inl rfl), h.rv]; rfl
  · refine ⟨ho.1, ho.2.imp id ?_⟩
    rintro ⟨g, cp, cur, rfl, q1, q2, q3⟩
    exact ⟨g, cp, cur, rfl, q1, (hset g (hap g rfl).1).trans q2, q3⟩
theorem grown {w' : World} {row : Option Nat} (h : Fx W R P A n cap tv M w) (k : w.grownBy w' row) (hrow : ∀ g, row = some g → W.heap.size + 2 ≤ g ∧ g ≠ R ∧ tv.ownBlock ≠ some g) : Fx W R P A n cap tv M w' := by
  have h1 := h.lt
  have h2 := h.ge
  have hold : ∀ b, b < w.heap.size → b = R ∨ b < W.heap.size + 2 ∨ tv.ownBlock = some b → w'.heap[b]? = w.heap[b]? := by
    intro b hb hc
    refine k.block b hb (fun e => ?_)
    have := hrow b e.symm
    rcases hc with h3 | h3 | h3
    · exact this.2.1 h3
    · omega
    · exact this.2.2 h3
  refine ⟨(hold _ (by omega) (.inr (.inl (by omega)))).trans h.bx, (hold _ (by omega) (.inr (.inl (by omega)))).trans h.rs, (hold _ h1 (.inl rfl)).trans h.rv, h2, ⟨h.own.1, h.own.2.imp id ?_⟩, h.ap,
    ⟨k.os.trans h.held.os, k.tape.trans h.held.tape, k.output.trans h.held.output, Nat.le_trans h.held.size k.size, fun b hb => (hold b (Nat.lt_of_lt_of_le hb h.held.size) (.inr (.inl (by omega)))).trans (h.held.block b hb)⟩⟩
  rintro ⟨g, cp, cur, rfl, q1, q2, q3⟩
  exact ⟨g, cp, cur, rfl, q1, (hold g (Array.getElem?_eq_some_iff.1 q2).1 (.inr (.inr rfl))).trans q2, q3⟩
end Fx
theorem fx_alloc {W W0 w1 : World} {P : Int} {A : Option Addr} {n cap : Nat} {tv : Value} {M : List Lr} (h0 : W0 = (W.alloc (.cells #[.int .i64 P, .slice A n cap] 26)).alloc (.cells #[.int .i64 0, .slice none 0 0] 26))
    (hk : Held W0 w1) (ho : Own 35 2 lrC W0.heap.size w1 tv M) : Fx W w1.heap.size P A n cap tv M (w1.alloc (.cells #[.int .i64 P, tv] 26)) := by
  have hs : W0.heap.size = W.heap.size + 2 := by rw [h0]; simp
  have hk2 : Held W0 (w1.alloc (.cells #[.int .i64 P, tv] 26)) := hk.alloc _
  have hW : Held W W0 := by rw [h0]; exact ((Held.refl W).alloc _).alloc _
  have hle := hk.le
  refine ⟨?_, ?_, heap_alloc_new w1 _, by omega, Own.held (Own.mono ho (by omega)) ((Held.refl w1).alloc _), ?_, hW.step hk2⟩
  · rw [hk2.block _ (by omega), h0, Below.heap_alloc _ _ _ (by simp)]; exact heap_alloc_new W _
  · rw [hk2.block _ (by omega), h0]
    have := heap_alloc_new (W.alloc (.cells #[.int .i64 P, .slice A n cap] 26)) (.cells #[.int .i64 0, .slice none 0 0] 26)
    simpa using this
  · intro g hg
    have := World.ownsRow.lt ho g hg
    exact ⟨by omega, by omega⟩
theorem fx_set {W W0 wb w1 : World} {P : Int} {A : Option Addr} {n cap : Nat} {tv : Value} {M : List Lr} (h0 : W0 = (W.alloc (.cells #[.int .i64 P, .slice A n cap] 26)).alloc (.cells #[.int .i64 0, .slice none 0 0] 26))
    (hwb : Held (W0.alloc (.cells #[.int .i64 0, .slice none 0 0] 26)) wb) (hk : Held wb w1) (ho : Own 35 2 lrC wb.heap.size w1 tv M) :
    Fx W W0.heap.size P A n cap tv M ((w1.setCell ⟨W0.heap.size, 0, none⟩ (.int .i64 P)).setCell ⟨W0.heap.size, 1, none⟩ tv) := by
  have hs : W0.heap.size = W.heap.size + 2 := by rw [h0]; simp
  have hk1 := hwb.step hk
  have hk0 : Held W0 w1 := ((Held.refl W0).alloc _).step hk1
  have hW : Held W W0 := by rw [h0]; exact ((Held.refl W).alloc _).alloc _
  have hle := hwb.le
  simp at hle
  have hb0 : w1.heap[W0.heap.size]? = some (.cells #[.int .i64 0, .slice none 0 0] 26 (0, 0)) := (hk1.block _ (by simp)).trans (heap_alloc_new W0 _)
  have hset : ∀ b, b ≠ W0.heap.size → ((w1.setCell ⟨W0.heap.size, 0, none⟩ (.int .i64 P)).setCell ⟨W0.heap.size, 1, none⟩ tv).heap[b]? = w1.heap[b]? := by
    intro b hb
    simp only [World.setCell]
    rw [Array.getElem?_modify, if_neg (fun e => hb e.symm), Array.getElem?_modify, if_neg (fun e => hb e.symm)]
  have hap : ∀ g, tv.ownBlock = some g → g ≠ W0.heap.size ∧ W.heap.size + 2 ≤ g := by
    intro g hg
    have := World.ownsRow.lt ho g hg
    exact ⟨by omega, by omega⟩
  refine ⟨?_, ?_, ?_, by omega, ?_, hap, (hW.step hk0).set (by show W.heap.size ≤ W0.heap.size; omega) _ |>.set (by show W.heap.size ≤ W0.heap.size; omega) _⟩
  · rw [hset _ (by omega), hk0.block _ (by omega), h0, Below.heap_alloc _ _ _ (by simp)]; exact heap_alloc_new W _
  · rw [hset _ (by omega), hk0.block _ (by omega), h0]
    have := heap_alloc_new (W.alloc (.cells #[.int .i64 P, .slice A n cap] 26)) (.cells #[.int .i64 0, .slice none 0 0] 26)
    simpa using this
  · simp only [World.setCell]
    rw [Array.getElem?_modify, if_pos rfl, Array.getElem?_modify, if_pos rfl, hb0]; rfl
  · refine ⟨ho.1, ho.2.imp id ?_⟩
    rintro ⟨g, cp, cur, rfl, q1, q2, q3⟩
    exact ⟨g, cp, cur, rfl, by omega, (hset g (hap g rfl).1).trans q2, q3⟩
theorem clone_tab (w : World) (A : Option Addr) (n cap : Nat) (L : List Lr) (h : Sl 2 lrC w A n L) (hn : A = none → n = 0) (hn16 : n ≤ 16) :
    Calls Try.prog 16 #[.slice A n cap] w fun r w' => ∃ v', r = .returned v' ∧ Own 35 2 lrC w.heap.size w' v' L ∧ Held w w' := by
  refine (SlcLr.clone_any lrC_len lrC_one A n cap L w h hn (by omega)).mono ?_
  rintro r w' ⟨v', rfl, ho, hh⟩
  exact ⟨v', rfl, ho, hh⟩
theorem own_new (w : World) (q : Int) {B : Nat} (h : B ≤ w.heap.size) : Own 3 1 intC B (w.alloc (.cells #[.int .i64 q] 3)) (.slice (some ⟨w.heap.size, 0, none⟩) 1 1) [q] :=
  ⟨by simp [intC], .inr ⟨w.heap.size, 1, #[.int .i64 q], rfl, h, heap_alloc_new w _, Nat.le_refl _, by unfold maxLen; omega, by simp, by simp [intC]⟩⟩
/-- The result laid. -/
theorem fin_two {W w : World} {R : Nat} {P : Int} {A : Option Addr} {n cap : Nat} {tv : Value} {M : List Lr} (h : Fx W R P A n cap tv M w) (ov : Value) (O : List Int) (ho : Own 3 1 intC W.heap.size w ov O) (hne : ∀ g, ov.ownBlock = some g → g ≠ W.heap.size + 1) :
    Fw W P M O (.returned (.tuple #[.agg #[.int .i64 P, tv], ov])) ((w.setCell ⟨W.heap.size + 1, 0, none⟩ (.int .i64 P)).setCell ⟨W.heap.size + 1, 1, none⟩ tv) := by
  have hset : ∀ b, b ≠ W.heap.size + 1 → ((w.setCell ⟨W.heap.size + 1, 0, none⟩ (.int .i64 P)).setCell ⟨W.heap.size + 1, 1, none⟩ tv).heap[b]? = w.heap[b]? := by
    intro b hb
    simp only [World.setCell]
    rw [Array.getElem?_modify, if_neg (fun e => hb e.symm), Array.getElem?_modify, if_neg (fun e => hb e.symm)]
  refine Fw.mk ⟨h.own.1, h.own.2.imp id ?_⟩ ⟨ho.1, ho.2.imp id ?_⟩ ((h.held.set (Nat.le_succ _) _).set (Nat.le_succ _) _)
  · rintro ⟨g, cp, cur, rfl, q1, q2, q3⟩
    have := (h.ap g rfl).2
    exact ⟨g, cp, cur, rfl, q1, (hset g (by omega)).trans q2, q3⟩
  · rintro ⟨g, cp, cur, rfl, q1, q2, q3⟩
    exact ⟨g, cp, cur, rfl, q1, (hset g (hne g rfl)).trans q2, q3⟩
theorem own_shape' {B : Nat} {w : World} {v : Value} {L : List Lr} (h : Own 35 2 lrC B w v L) : ∃ A cap, v = .slice A L.length cap ∧ L.length ≤ cap ∧ Sl 2 lrC w A L.length L := by
  obtain ⟨A, cap, rfl, hc, _⟩ := h.shape
  exact ⟨A, cap, rfl, hc, (h.reads lrC_len).1⟩
set_option maxHeartbeats 4000000 in
theorem forward_hit (P pt : Int) (A : Option Addr) (n cap : Nat) (L : List Lr) (f : ByteArray) (W : World) (h : Sl 2 lrC W A n L) (hA : A = none → n = 0) (hcap : n ≤ cap) (hv : VS P L) (h1 : 2 ≤ f.size) (h2 : f.size ≤ 128) (hp : 0 ≤ pt) (hp2 : pt < P)
    (to fr : Nat) (hto : f[0].toNat = to) (hfr : f[1].toNat = fr) (hfr2 : fr < 255) (hto2 : to < 255) (k : Nat) (hk : k < (learnL L fr pt).length) (hf : find (learnL L fr pt) to = k) (hne : ¬ (learnL L fr pt)[k].p = pt) :
    Calls Try.prog 9 #[.agg #[.int .i64 P, .slice A n cap], .int .i64 pt, .string f] W (Fw W P (learnL L fr pt) [(learnL L fr pt)[k].p]) := by
  have hn16 : n ≤ 16 := by have := hv.len; have := h.1; omega
  have q1 := hv.lo
  have q2 := hv.hi
  obtain ⟨W0, hW0⟩ : ∃ W0, W0 = (W.alloc (.cells #[.int .i64 P, .slice A n cap] 26)).alloc (.cells #[.int .i64 0, .slice none 0 0] 26) := ⟨_, rfl⟩
  have hh0 : Held W W0 := by rw [hW0]; exact ((Held.refl W).alloc _).alloc _
  have b0 : W0.cell? ⟨W.heap.size, 0, none⟩ = some (.int .i64 P) := by rw [hW0]; simp
  have b1 : W0.cell? ⟨W.heap.size, 1, none⟩ = some (.slice A n cap) := by rw [hW0]; simp
  have HS := Lib.hid h
  have HV := Lib.hid hv
  have HW0 := Lib.hid hW0
  have HC := fun w (hw : Held W0 w) => Lib.hid ((clone_tab w A n cap L (h.held (hh0.step hw)) hA hn16).mono fun r w' hq => (let ⟨v', a1, a2, a3⟩ := hq; ⟨v', a1, Lib.hid a2, hw.step a3, Lib.hid a3, bcell a3⟩ : ∃ v', r = .returned v' ∧ Hid (Own 35 2 lrC w.heap.size w' v' L) ∧ Held W0 w' ∧ Hid (Held w w') ∧ (∀ b o, b < w.heap.size → w'.cell? ⟨b, o, none⟩ = w.cell? ⟨b, o, none⟩) ∧ (∀ b o, b < w.heap.size → w'.frozen? ⟨b, o, none⟩ = w.frozen? ⟨b, o, none⟩)))
  have HAD := fun w => Lib.hid (addr_any f w h1 h2 to fr hto hfr)
  clear h hv hA hto hfr
  go_enter Try.func9, Try.ntmps9
  go_wp2
  rw [← hW0]
  clear hW0
  go_region_held3 (fun w' => w'.cell? ⟨W.heap.size, 0, none⟩ = some (.int .i64 P) ∧ w'.cell? ⟨W.heap.size, 1, none⟩ = some (.slice A n cap) ∧ Held W0 w') (exact ⟨Held.cell (w := W0) (by first | assumption | exact (Held.refl W0).drew | exact ((Held.refl W0).alloc _).drew | exact Held.alloc (by assumption) _ | exact Held.drew (by assumption) | exact Held.drew (Held.alloc (by assumption) _) | exact Held.set (Held.set (by assumption) (Nat.le_refl _) _) (Nat.le_refl _) _) b0, Held.cell (w := W0) (by first | assumption | exact (Held.refl W0).drew | exact ((Held.refl W0).alloc _).drew | exact Held.alloc (by assumption) _ | exact Held.drew (by assumption) | exact Held.drew (Held.alloc (by assumption) _) | exact Held.set (Held.set (by assumption) (Nat.le_refl _) _) (Nat.le_refl _) _) b1, by first | assumption | exact (Held.refl W0).drew | exact ((Held.refl W0).alloc _).drew | exact Held.alloc (by assumption) _ | exact Held.drew (by assumption) | exact Held.drew (Held.alloc (by assumption) _) | exact Held.set (Held.set (by assumption) (Nat.le_refl _) _) (Nat.le_refl _) _⟩)
    (first | (go_at_call 16; refine (HC _ (by first | assumption | exact (Held.refl W0).drew | exact ((Held.refl W0).alloc _).drew | exact Held.alloc (by assumption) _ | exact Held.drew (by assumption) | exact Held.drew (Held.alloc (by assumption) _) | exact Held.set (Held.set (by assumption) (Nat.le_refl _) _) (Nat.le_refl _) _)).out.mono ?_; rintro r w1 ⟨v1, rfl, ho1, hk1, hk2, t0, z0⟩; obtain ⟨A1, cap1, rfl, hcap1, hs1⟩ := own_shape' ho1.out))
  · have hF := Lib.hid (fx_alloc HW0.out hk1 (Own.mono ho1.out (by exact Nat.le_refl _)))
    obtain ⟨wX, hwX⟩ : ∃ x, x = (w1.alloc (.cells #[.int .i64 P, .slice A1 L.length cap1] 26)) := ⟨_, rfl⟩
    rw [← hwX] at hF ⊢
    clear hwX t0 z0 hs1 HC b0 b1 ho1 hk2 hk1
    generalize w1.heap.size = R at hF ⊢
    obtain ⟨c0, c1, c2, c3, c4, c5, c6, c7, c8⟩ := hF.out.cells
    go_wp2_with fail
    refine (HAD _).out.mono ?_
    rintro e w2 ⟨rfl, k2⟩
    have hF2 := Lib.hid (hF.out.keep k2)
    clear k2 c0 c1 c2 c3 c4 c5 c6 c7 c8 hF
    obtain ⟨c0, c1, c2, c3, c4, c5, c6, c7, c8⟩ := hF2.out.cells
    have hva := Lib.hid (valid_yes P A n cap L w2 (HS.out.held hF2.out.held) hcap HV.out)
    go_wp2_with fail
    refine hva.out.mono ?_
    rintro e w3 ⟨rfl, k3⟩
    have hF3 := Lib.hid (hF2.out.keep k3)
    clear k3 c0 c1 c2 c3 c4 c5 c6 c7 c8 hF2 hva
    obtain ⟨c0, c1, c2, c3, c4, c5, c6, c7, c8⟩ := hF3.out.cells
    have hfr3 : ((fr : Int) != 255) = true := by simp; omega
    have hfr4 : ¬ (fr : Int) = 255 := by omega
    have hle := Lib.hid (learn_any W w3 hF3.out.held _ P L fr pt hF3.out.own HV.out)
    go_wp2_with fail
    refine hle.out.mono ?_
    rintro e w4 ⟨tv, rfl, ho4, hh4, hk4⟩
    have hF4 := Lib.hid (hF3.out.put ho4 hh4 hk4)
    obtain ⟨A4, cap4, rfl, hcap4, hs4⟩ := own_shape' ho4
    obtain ⟨s5, s6⟩ := hF3.out.slot hk4
    have HM16 : Hid ((learnL L fr pt).length ≤ 16) := by show _ ≤ _; unfold learnL; rw [List.length_take]; omega
    generalize learnL L fr pt = M at *
    clear c0 c1 c2 c3 c4 c5 c6 c7 c8 ho4 hh4 hk4 hs4 hF3 hle
    obtain ⟨c0, c1, c2, c3, c4, c5, c6, c7, c8⟩ := hF4.out.cells
    have hto3 : ((to : Int) != 255) = true := by simp; omega
    have hto4 : ¬ (to : Int) = 255 := by omega
    have hpo := Lib.hid (port_hit P A4 M.length cap4 M to k _ (hF4.out.own.reads lrC_len).1 HM16.out hcap4 hk hf)
    generalize hq : M[k].p = q at *
    have HQ := Lib.hid hq
    clear hq hf
    go_wp2_with fail
    refine hpo.out.mono ?_
    rintro e w6 ⟨rfl, k6⟩
    have hF6 := Lib.hid (hF4.out.keep k6)
    clear k6 c0 c1 c2 c3 c4 c5 c6 c7 c8 hF4 hpo
    obtain ⟨c0, c1, c2, c3, c4, c5, c6, c7, c8⟩ := hF6.out.cells
    have hne2 : ((q : Int) == pt) = false := by simpa using hne
    have hF7 := Lib.hid (hF6.out.keep ((Held.refl w6).alloc (.cells #[.int .i64 q] 3)))
    obtain ⟨d0, d1, d2, d3, d4, d5, d6, d7, d8⟩ := hF7.out.cells
    have hne3 : W.heap.size + 1 ≠ w6.heap.size := by have := hF6.out.lt; have := hF6.out.ge; omega
    go_wp2
    have hfin := fin_two hF7.out (.slice (some ⟨w6.heap.size, 0, none⟩) 1 1) [q] (own_new w6 q hF6.out.held.le) (by rintro g ⟨⟩; exact fun e => hne3 e.symm)
    refine bodyPost_ret (v := .tuple #[.agg #[.int .i64 P, .slice A4 M.length cap4], .slice (some ⟨w6.heap.size, 0, none⟩) 1 1]) (by simp [results, Try.results9, go_sem, d2, d3]) rfl (by rw [HQ.out]; exact hfin)
  · have hF := Lib.hid (fx_set HW0.out (Held.refl _).drew hk2.out ho1.out)
    obtain ⟨wX, hwX⟩ : ∃ x, x = ((w1.setCell ⟨W0.heap.size, 0, none⟩ (.int .i64 P)).setCell ⟨W0.heap.size, 1, none⟩ (.slice A1 L.length cap1)) := ⟨_, rfl⟩
    rw [← hwX] at hF ⊢
    clear hwX t0 z0 hs1 HC b0 b1 ho1 hk2 hk1 HW0
    generalize W0.heap.size = R at hF ⊢
    obtain ⟨c0, c1, c2, c3, c4, c5, c6, c7, c8⟩ := hF.out.cells
    go_wp2_with fail
    refine (HAD _).out.mono ?_
    rintro e w2 ⟨rfl, k2⟩
    have hF2 := Lib.hid (hF.out.keep k2)
    clear k2 c0 c1 c2 c3 c4 c5 c6 c7 c8 hF
    obtain ⟨c0, c1, c2, c3, c4, c5, c6, c7, c8⟩ := hF2.out.cells
    have hva := Lib.hid (valid_yes P A n cap L w2 (HS.out.held hF2.out.held) hcap HV.out)
    go_wp2_with fail
    refine hva.out.mono ?_
    rintro e w3 ⟨rfl, k3⟩
    have hF3 := Lib.hid (hF2.out.keep k3)
    clear k3 c0 c1 c2 c3 c4 c5 c6 c7 c8 hF2 hva
    obtain ⟨c0, c1, c2, c3, c4, c5, c6, c7, c8⟩ := hF3.out.cells
    have hfr3 : ((fr : Int) != 255) = true := by simp; omega
    have hfr4 : ¬ (fr : Int) = 255 := by omega
    have hle := Lib.hid (learn_any W w3 hF3.out.held _ P L fr pt hF3.out.own HV.out)
    go_wp2_with fail
    refine hle.out.mono ?_
    rintro e w4 ⟨tv, rfl, ho4, hh4, hk4⟩
    have hF4 := Lib.hid (hF3.out.put ho4 hh4 hk4)
    obtain ⟨A4, cap4, rfl, hcap4, hs4⟩ := own_shape' ho4
    obtain ⟨s5, s6⟩ := hF3.out.slot hk4
    have HM16 : Hid ((learnL L fr pt).length ≤ 16) := by show _ ≤ _; unfold learnL; rw [List.length_take]; omega
    generalize learnL L fr pt = M at *
    clear c0 c1 c2 c3 c4 c5 c6 c7 c8 ho4 hh4 hk4 hs4 hF3 hle
    obtain ⟨c0, c1, c2, c3, c4, c5, c6, c7, c8⟩ := hF4.out.cells
    have hto3 : ((to : Int) != 255) = true := by simp; omega
    have hto4 : ¬ (to : Int) = 255 := by omega
    have hpo := Lib.hid (port_hit P A4 M.length cap4 M to k _ (hF4.out.own.reads lrC_len).1 HM16.out hcap4 hk hf)
    generalize hq : M[k].p = q at *
    have HQ := Lib.hid hq
    clear hq hf
    go_wp2_with fail
    refine hpo.out.mono ?_
    rintro e w6 ⟨rfl, k6⟩
    have hF6 := Lib.hid (hF4.out.keep k6)
    clear k6 c0 c1 c2 c3 c4 c5 c6 c7 c8 hF4 hpo
    obtain ⟨c0, c1, c2, c3, c4, c5, c6, c7, c8⟩ := hF6.out.cells
    have hne2 : ((q : Int) == pt) = false := by simpa using hne
    have hF7 := Lib.hid (hF6.out.keep ((Held.refl w6).alloc (.cells #[.int .i64 q] 3)))
    obtain ⟨d0, d1, d2, d3, d4, d5, d6, d7, d8⟩ := hF7.out.cells
    have hne3 : W.heap.size + 1 ≠ w6.heap.size := by have := hF6.out.lt; have := hF6.out.ge; omega
    go_wp2
    have hfin := fin_two hF7.out (.slice (some ⟨w6.heap.size, 0, none⟩) 1 1) [q] (own_new w6 q hF6.out.held.le) (by rintro g ⟨⟩; exact fun e => hne3 e.symm)
    refine bodyPost_ret (v := .tuple #[.agg #[.int .i64 P, .slice A4 M.length cap4], .slice (some ⟨w6.heap.size, 0, none⟩) 1 1]) (by simp [results, Try.results9, go_sem, d2, d3]) rfl (by rw [HQ.out]; exact hfin)
set_option maxHeartbeats 4000000 in
theorem forward_same (P pt : Int) (A : Option Addr) (n cap : Nat) (L : List Lr) (f : ByteArray) (W : World) (h : Sl 2 lrC W A n L) (hA : A = none → n = 0) (hcap : n ≤ cap) (hv : VS P L) (h1 : 2 ≤ f.size) (h2 : f.size ≤ 128) (hp : 0 ≤ pt) (hp2 : pt < P)
    (to fr : Nat) (hto : f[0].toNat = to) (hfr : f[1].toNat = fr) (hfr2 : fr < 255) (hto2 : to < 255) (k : Nat) (hk : k < (learnL L fr pt).length) (hf : find (learnL L fr pt) to = k) (hne : (learnL L fr pt)[k].p = pt) :
    Calls Try.prog 9 #[.agg #[.int .i64 P, .slice A n cap], .int .i64 pt, .string f] W (Fw W P (learnL L fr pt) []) := by
  have hn16 : n ≤ 16 := by have := hv.len; have := h.1; omega
  have q1 := hv.lo
  have q2 := hv.hi
  obtain ⟨W0, hW0⟩ : ∃ W0, W0 = (W.alloc (.cells #[.int .i64 P, .slice A n cap] 26)).alloc (.cells #[.int .i64 0, .slice none 0 0] 26) := ⟨_, rfl⟩
  have hh0 : Held W W0 := by rw [hW0]; exact ((Held.refl W).alloc _).alloc _
  have b0 : W0.cell? ⟨W.heap.size, 0, none⟩ = some (.int .i64 P) := by rw [hW0]; simp
  have b1 : W0.cell? ⟨W.heap.size, 1, none⟩ = some (.slice A n cap) := by rw [hW0]; simp
  have HS := Lib.hid h
  have HV := Lib.hid hv
  have HW0 := Lib.hid hW0
  have HC := fun w (hw : Held W0 w) => Lib.hid ((clone_tab w A n cap L (h.held (hh0.step hw)) hA hn16).mono fun r w' hq => (let ⟨v', a1, a2, a3⟩ := hq; ⟨v', a1, Lib.hid a2, hw.step a3, Lib.hid a3, bcell a3⟩ : ∃ v', r = .returned v' ∧ Hid (Own 35 2 lrC w.heap.size w' v' L) ∧ Held W0 w' ∧ Hid (Held w w') ∧ (∀ b o, b < w.heap.size → w'.cell? ⟨b, o, none⟩ = w.cell? ⟨b, o, none⟩) ∧ (∀ b o, b < w.heap.size → w'.frozen? ⟨b, o, none⟩ = w.frozen? ⟨b, o, none⟩)))
  have HAD := fun w => Lib.hid (addr_any f w h1 h2 to fr hto hfr)
  clear h hv hA hto hfr
  go_enter Try.func9, Try.ntmps9
  go_wp2
  rw [← hW0]
  clear hW0
  go_region_held3 (fun w' => w'.cell? ⟨W.heap.size, 0, none⟩ = some (.int .i64 P) ∧ w'.cell? ⟨W.heap.size, 1, none⟩ = some (.slice A n cap) ∧ Held W0 w') (exact ⟨Held.cell (w := W0) (by first | assumption | exact (Held.refl W0).drew | exact ((Held.refl W0).alloc _).drew | exact Held.alloc (by assumption) _ | exact Held.drew (by assumption) | exact Held.drew (Held.alloc (by assumption) _) | exact Held.set (Held.set (by assumption) (Nat.le_refl _) _) (Nat.le_refl _) _) b0, Held.cell (w := W0) (by first | assumption | exact (Held.refl W0).drew | exact ((Held.refl W0).alloc _).drew | exact Held.alloc (by assumption) _ | exact Held.drew (by assumption) | exact Held.drew (Held.alloc (by assumption) _) | exact Held.set (Held.set (by assumption) (Nat.le_refl _) _) (Nat.le_refl _) _) b1, by first | assumption | exact (Held.refl W0).drew | exact ((Held.refl W0).alloc _).drew | exact Held.alloc (by assumption) _ | exact Held.drew (by assumption) | exact Held.drew (Held.alloc (by assumption) _) | exact Held.set (Held.set (by assumption) (Nat.le_refl _) _) (Nat.le_refl _) _⟩)
    (first | (go_at_call 16; refine (HC _ (by first | assumption | exact (Held.refl W0).drew | exact ((Held.refl W0).alloc _).drew | exact Held.alloc (by assumption) _ | exact Held.drew (by assumption) | exact Held.drew (Held.alloc (by assumption) _) | exact Held.set (Held.set (by assumption) (Nat.le_refl _) _) (Nat.le_refl _) _)).out.mono ?_; rintro r w1 ⟨v1, rfl, ho1, hk1, hk2, t0, z0⟩; obtain ⟨A1, cap1, rfl, hcap1, hs1⟩ := own_shape' ho1.out))
  · have hF := Lib.hid (fx_alloc HW0.out hk1 (Own.mono ho1.out (by exact Nat.le_refl _)))
    obtain ⟨wX, hwX⟩ : ∃ x, x = (w1.alloc (.cells #[.int .i64 P, .slice A1 L.length cap1] 26)) := ⟨_, rfl⟩
    rw [← hwX] at hF ⊢
    clear hwX t0 z0 hs1 HC b0 b1 ho1 hk2 hk1
    generalize w1.heap.size = R at hF ⊢
    obtain ⟨c0, c1, c2, c3, c4, c5, c6, c7, c8⟩ := hF.out.cells
    go_wp2_with fail
    refine (HAD _).out.mono ?_
    rintro e w2 ⟨rfl, k2⟩
    have hF2 := Lib.hid (hF.out.keep k2)
    clear k2 c0 c1 c2 c3 c4 c5 c6 c7 c8 hF
    obtain ⟨c0, c1, c2, c3, c4, c5, c6, c7, c8⟩ := hF2.out.cells
    have hva := Lib.hid (valid_yes P A n cap L w2 (HS.out.held hF2.out.held) hcap HV.out)
    go_wp2_with fail
    refine hva.out.mono ?_
    rintro e w3 ⟨rfl, k3⟩
    have hF3 := Lib.hid (hF2.out.keep k3)
    clear k3 c0 c1 c2 c3 c4 c5 c6 c7 c8 hF2 hva
    obtain ⟨c0, c1, c2, c3, c4, c5, c6, c7, c8⟩ := hF3.out.cells
    have hfr3 : ((fr : Int) != 255) = true := by simp; omega
    have hfr4 : ¬ (fr : Int) = 255 := by omega
    have hle := Lib.hid (learn_any W w3 hF3.out.held _ P L fr pt hF3.out.own HV.out)
    go_wp2_with fail
    refine hle.out.mono ?_
    rintro e w4 ⟨tv, rfl, ho4, hh4, hk4⟩
    have hF4 := Lib.hid (hF3.out.put ho4 hh4 hk4)
    obtain ⟨A4, cap4, rfl, hcap4, hs4⟩ := own_shape' ho4
    obtain ⟨s5, s6⟩ := hF3.out.slot hk4
    have HM16 : Hid ((learnL L fr pt).length ≤ 16) := by show _ ≤ _; unfold learnL; rw [List.length_take]; omega
    generalize learnL L fr pt = M at *
    clear c0 c1 c2 c3 c4 c5 c6 c7 c8 ho4 hh4 hk4 hs4 hF3 hle
    obtain ⟨c0, c1, c2, c3, c4, c5, c6, c7, c8⟩ := hF4.out.cells
    have hto3 : ((to : Int) != 255) = true := by simp; omega
    have hto4 : ¬ (to : Int) = 255 := by omega
    have hpo := Lib.hid (port_hit P A4 M.length cap4 M to k _ (hF4.out.own.reads lrC_len).1 HM16.out hcap4 hk hf)
    generalize hq : M[k].p = q at *
    have HQ := Lib.hid hq
    clear hq hf
    go_wp2_with fail
    refine hpo.out.mono ?_
    rintro e w6 ⟨rfl, k6⟩
    have hF6 := Lib.hid (hF4.out.keep k6)
    clear k6 c0 c1 c2 c3 c4 c5 c6 c7 c8 hF4 hpo
    obtain ⟨c0, c1, c2, c3, c4, c5, c6, c7, c8⟩ := hF6.out.cells
    subst hne
    have hne3 : ((q : Int) == q) = true := by simp
    go_wp2
    have hfin := fin_two hF6.out (.slice none 0 0) [] (Own.nil _) (fun g hg => by cases hg)
    refine bodyPost_ret (v := .tuple #[.agg #[.int .i64 P, .slice A4 M.length cap4], .slice none 0 0]) (by simp [results, Try.results9, go_sem, c2, c3]) rfl hfin
  · have hF := Lib.hid (fx_set HW0.out (Held.refl _).drew hk2.out ho1.out)
    obtain ⟨wX, hwX⟩ : ∃ x, x = ((w1.setCell ⟨W0.heap.size, 0, none⟩ (.int .i64 P)).setCell ⟨W0.heap.size, 1, none⟩ (.slice A1 L.length cap1)) := ⟨_, rfl⟩
    rw [← hwX] at hF ⊢
    clear hwX t0 z0 hs1 HC b0 b1 ho1 hk2 hk1 HW0
    generalize W0.heap.size = R at hF ⊢
    obtain ⟨c0, c1, c2, c3, c4, c5, c6, c7, c8⟩ := hF.out.cells
    go_wp2_with fail
    refine (HAD _).out.mono ?_
    rintro e w2 ⟨rfl, k2⟩
    have hF2 := Lib.hid (hF.out.keep k2)
    clear k2 c0 c1 c2 c3 c4 c5 c6 c7 c8 hF
    obtain ⟨c0, c1, c2, c3, c4, c5, c6, c7, c8⟩ := hF2.out.cells
    have hva := Lib.hid (valid_yes P A n cap L w2 (HS.out.held hF2.out.held) hcap HV.out)
    go_wp2_with fail
    refine hva.out.mono ?_
    rintro e w3 ⟨rfl, k3⟩
    have hF3 := Lib.hid (hF2.out.keep k3)
    clear k3 c0 c1 c2 c3 c4 c5 c6 c7 c8 hF2 hva
    obtain ⟨c0, c1, c2, c3, c4, c5, c6, c7, c8⟩ := hF3.out.cells
    have hfr3 : ((fr : Int) != 255) = true := by simp; omega
    have hfr4 : ¬ (fr : Int) = 255 := by omega
    have hle := Lib.hid (learn_any W w3 hF3.out.held _ P L fr pt hF3.out.own HV.out)
    go_wp2_with fail
    refine hle.out.mono ?_
    rintro e w4 ⟨tv, rfl, ho4, hh4, hk4⟩
    have hF4 := Lib.hid (hF3.out.put ho4 hh4 hk4)
    obtain ⟨A4, cap4, rfl, hcap4, hs4⟩ := own_shape' ho4
    obtain ⟨s5, s6⟩ := hF3.out.slot hk4
    have HM16 : Hid ((learnL L fr pt).length ≤ 16) := by show _ ≤ _; unfold learnL; rw [List.length_take]; omega
    generalize learnL L fr pt = M at *
    clear c0 c1 c2 c3 c4 c5 c6 c7 c8 ho4 hh4 hk4 hs4 hF3 hle
    obtain ⟨c0, c1, c2, c3, c4, c5, c6, c7, c8⟩ := hF4.out.cells
    have hto3 : ((to : Int) != 255) = true := by simp; omega
    have hto4 : ¬ (to : Int) = 255 := by omega
    have hpo := Lib.hid (port_hit P A4 M.length cap4 M to k _ (hF4.out.own.reads lrC_len).1 HM16.out hcap4 hk hf)
    generalize hq : M[k].p = q at *
    have HQ := Lib.hid hq
    clear hq hf
    go_wp2_with fail
    refine hpo.out.mono ?_
    rintro e w6 ⟨rfl, k6⟩
    have hF6 := Lib.hid (hF4.out.keep k6)
    clear k6 c0 c1 c2 c3 c4 c5 c6 c7 c8 hF4 hpo
    obtain ⟨c0, c1, c2, c3, c4, c5, c6, c7, c8⟩ := hF6.out.cells
    subst hne
    have hne3 : ((q : Int) == q) = true := by simp
    go_wp2
    have hfin := fin_two hF6.out (.slice none 0 0) [] (Own.nil _) (fun g hg => by cases hg)
    refine bodyPost_ret (v := .tuple #[.agg #[.int .i64 P, .slice A4 M.length cap4], .slice none 0 0]) (by simp [results, Try.results9, go_sem, c2, c3]) rfl hfin
/-- The first ports but one. -/
def floodN (pt : Int) : Nat → List Int
  | 0 => []
  | j + 1 => if (j : Int) = pt then floodN pt j else floodN pt j ++ [(j : Int)]
theorem floodN_len (pt : Int) : ∀ j, (floodN pt j).length ≤ j
  | 0 => Nat.le_refl _
  | j + 1 => by
    unfold floodN
    have := floodN_len pt j
    split
    · omega
    · rw [List.length_append]; simp; omega
/-- All ports but one. -/
def flood (P pt : Int) : List Int := floodN pt P.toNat
set_option maxHeartbeats 4000000 in
theorem forward_none (P pt : Int) (A : Option Addr) (n cap : Nat) (L : List Lr) (f : ByteArray) (W : World) (h : Sl 2 lrC W A n L) (hA : A = none → n = 0) (hcap : n ≤ cap) (hv : VS P L) (h1 : 2 ≤ f.size) (h2 : f.size ≤ 128) (hp : 0 ≤ pt) (hp2 : pt < P)
    (to fr : Nat) (hto : f[0].toNat = to) (hfr : f[1].toNat = fr) (hfr2 : fr < 255) (hto2 : to < 255) (hf : find (learnL L fr pt) to = -1) :
    Calls Try.prog 9 #[.agg #[.int .i64 P, .slice A n cap], .int .i64 pt, .string f] W (Fw W P (learnL L fr pt) (flood P pt)) := by
  have hn16 : n ≤ 16 := by have := hv.len; have := h.1; omega
  have q1 := hv.lo
  have q2 := hv.hi
  obtain ⟨W0, hW0⟩ : ∃ W0, W0 = (W.alloc (.cells #[.int .i64 P, .slice A n cap] 26)).alloc (.cells #[.int .i64 0, .slice none 0 0] 26) := ⟨_, rfl⟩
  have hh0 : Held W W0 := by rw [hW0]; exact ((Held.refl W).alloc _).alloc _
  have b0 : W0.cell? ⟨W.heap.size, 0, none⟩ = some (.int .i64 P) := by rw [hW0]; simp
  have b1 : W0.cell? ⟨W.heap.size, 1, none⟩ = some (.slice A n cap) := by rw [hW0]; simp
  have HS := Lib.hid h
  have HV := Lib.hid hv
  have HW0 := Lib.hid hW0
  have HC := fun w (hw : Held W0 w) => Lib.hid ((clone_tab w A n cap L (h.held (hh0.step hw)) hA hn16).mono fun r w' hq => (let ⟨v', a1, a2, a3⟩ := hq; ⟨v', a1, Lib.hid a2, hw.step a3, Lib.hid a3, bcell a3⟩ : ∃ v', r = .returned v' ∧ Hid (Own 35 2 lrC w.heap.size w' v' L) ∧ Held W0 w' ∧ Hid (Held w w') ∧ (∀ b o, b < w.heap.size → w'.cell? ⟨b, o, none⟩ = w.cell? ⟨b, o, none⟩) ∧ (∀ b o, b < w.heap.size → w'.frozen? ⟨b, o, none⟩ = w.frozen? ⟨b, o, none⟩)))
  have HAD := fun w => Lib.hid (addr_any f w h1 h2 to fr hto hfr)
  clear h hv hA hto hfr
  go_enter Try.func9, Try.ntmps9
  go_wp2
  rw [← hW0]
  clear hW0
  go_region_held3 (fun w' => w'.cell? ⟨W.heap.size, 0, none⟩ = some (.int .i64 P) ∧ w'.cell? ⟨W.heap.size, 1, none⟩ = some (.slice A n cap) ∧ Held W0 w') (exact ⟨Held.cell (w := W0) (by first | assumption | exact (Held.refl W0).drew | exact ((Held.refl W0).alloc _).drew | exact Held.alloc (by assumption) _ | exact Held.drew (by assumption) | exact Held.drew (Held.alloc (by assumption) _) | exact Held.set (Held.set (by assumption) (Nat.le_refl _) _) (Nat.le_refl _) _) b0, Held.cell (w := W0) (by first | assumption | exact (Held.refl W0).drew | exact ((Held.refl W0).alloc _).drew | exact Held.alloc (by assumption) _ | exact Held.drew (by assumption) | exact Held.drew (Held.alloc (by assumption) _) | exact Held.set (Held.set (by assumption) (Nat.le_refl _) _) (Nat.le_refl _) _) b1, by first | assumption | exact (Held.refl W0).drew | exact ((Held.refl W0).alloc _).drew | exact Held.alloc (by assumption) _ | exact Held.drew (by assumption) | exact Held.drew (Held.alloc (by assumption) _) | exact Held.set (Held.set (by assumption) (Nat.le_refl _) _) (Nat.le_refl _) _⟩)
    (first | (go_at_call 16; refine (HC _ (by first | assumption | exact (Held.refl W0).drew | exact ((Held.refl W0).alloc _).drew | exact Held.alloc (by assumption) _ | exact Held.drew (by assumption) | exact Held.drew (Held.alloc (by assumption) _) | exact Held.set (Held.set (by assumption) (Nat.le_refl _) _) (Nat.le_refl _) _)).out.mono ?_; rintro r w1 ⟨v1, rfl, ho1, hk1, hk2, t0, z0⟩; obtain ⟨A1, cap1, rfl, hcap1, hs1⟩ := own_shape' ho1.out))
  · have hF := Lib.hid (fx_alloc HW0.out hk1 (Own.mono ho1.out (by exact Nat.le_refl _)))
    obtain ⟨wX, hwX⟩ : ∃ x, x = (w1.alloc (.cells #[.int .i64 P, .slice A1 L.length cap1] 26)) := ⟨_, rfl⟩
    rw [← hwX] at hF ⊢
    clear hwX t0 z0 hs1 HC b0 b1 ho1 hk2 hk1
    generalize w1.heap.size = R at hF ⊢
    obtain ⟨c0, c1, c2, c3, c4, c5, c6, c7, c8⟩ := hF.out.cells
    go_wp2_with fail
    refine (HAD _).out.mono ?_
    rintro e w2 ⟨rfl, k2⟩
    have hF2 := Lib.hid (hF.out.keep k2)
    clear k2 c0 c1 c2 c3 c4 c5 c6 c7 c8 hF
    obtain ⟨c0, c1, c2, c3, c4, c5, c6, c7, c8⟩ := hF2.out.cells
    have hva := Lib.hid (valid_yes P A n cap L w2 (HS.out.held hF2.out.held) hcap HV.out)
    go_wp2_with fail
    refine hva.out.mono ?_
    rintro e w3 ⟨rfl, k3⟩
    have hF3 := Lib.hid (hF2.out.keep k3)
    clear k3 c0 c1 c2 c3 c4 c5 c6 c7 c8 hF2 hva
    obtain ⟨c0, c1, c2, c3, c4, c5, c6, c7, c8⟩ := hF3.out.cells
    have hfr3 : ((fr : Int) != 255) = true := by simp; omega
    have hfr4 : ¬ (fr : Int) = 255 := by omega
    have hle := Lib.hid (learn_any W w3 hF3.out.held _ P L fr pt hF3.out.own HV.out)
    go_wp2_with fail
    refine hle.out.mono ?_
    rintro e w4 ⟨tv, rfl, ho4, hh4, hk4⟩
    have hF4 := Lib.hid (hF3.out.put ho4 hh4 hk4)
    obtain ⟨A4, cap4, rfl, hcap4, hs4⟩ := own_shape' ho4
    obtain ⟨s5, s6⟩ := hF3.out.slot hk4
    have HM16 : Hid ((learnL L fr pt).length ≤ 16) := by show _ ≤ _; unfold learnL; rw [List.length_take]; omega
    generalize learnL L fr pt = M at *
    clear c0 c1 c2 c3 c4 c5 c6 c7 c8 ho4 hh4 hk4 hs4 hF3 hle
    obtain ⟨c0, c1, c2, c3, c4, c5, c6, c7, c8⟩ := hF4.out.cells
    have hto3 : ((to : Int) != 255) = true := by simp; omega
    have hto4 : ¬ (to : Int) = 255 := by omega
    have hpo := Lib.hid (port_none P A4 M.length cap4 M to _ (hF4.out.own.reads lrC_len).1 HM16.out hcap4 hf)
    clear hf
    go_wp2_with fail
    refine hpo.out.mono ?_
    rintro e w6 ⟨rfl, k6⟩
    have hF6 := Lib.hid (hF4.out.keep k6)
    clear k6 c0 c1 c2 c3 c4 c5 c6 c7 c8 hF4 hpo
    obtain ⟨c0, c1, c2, c3, c4, c5, c6, c7, c8⟩ := hF6.out.cells
    have HFX := hF6
    clear c0 c1 c2 c3 c6 c7 c8
    clear c4 c5
    obtain ⟨c0, c1, c2, c3, c4, c5, c6, c7, c8⟩ := HFX.out.cells
    obtain ⟨N, hN⟩ : ∃ N : Nat, P.toNat = N := ⟨_, rfl⟩
    have hPN : (P : Int) = N := by omega
    subst hPN
    go_wp2
    go_loopw [14, 15, 72] (fun v _ i wr => ∃ (j : Nat), i = .int .i64 j ∧ j ≤ N ∧ Own 3 1 intC W.heap.size wr v (floodN pt j) ∧ Fx W R (N : Int) A n cap (.slice A4 M.length cap4) M wr ∧ ∀ g, v.ownBlock = some g → W.heap.size + 2 ≤ g ∧ g ≠ R ∧ (Value.slice A4 M.length cap4).ownBlock ≠ some g) (fun _ _ i _ => N - (intOf i).toNat)
    case atStart => exact ⟨0, rfl, Nat.zero_le _, Own.nil _, HFX.out, fun g hg => by cases hg⟩
    case round =>
      obtain ⟨j, rfl, hj, hown, hfx, hap⟩ := hrel
      have hfl := floodN_len pt j
      have HO := Lib.hid (And.intro hown (And.intro hfx hap))
      have hbz := hfx.held.le
      obtain ⟨c0, c1, c2, c3, c4, c5, c6, c7, c8⟩ := hfx.cells
      by_cases hlt : (j : Int) < N
      · by_cases hjp : (j : Int) = pt
        · have hst : Hid (floodN pt (j + 1) = floodN pt j) := if_pos hjp
          have hjp2 : ((j : Int) != pt) = false := by simp [hjp]
          clear hown hfx hap
          go_wp2
          go_roundw
          case rel => exact ⟨j + 1, by go_num, by omega, by rw [hst.out]; exact HO.out.1, HO.out.2.1, HO.out.2.2⟩
          case measure => (simp [intOf]) <;> omega
        · have hst : Hid (floodN pt (j + 1) = floodN pt j ++ [(j : Int)]) := if_neg hjp
          have hjp2 : ((j : Int) != pt) = true := by simp [hjp]
          clear hfx hap
          go_wp2_with (at_builtin; refine Own.app (f := intC) _ rfl _ _ _ rfl _ 8 Try.underlying22 int_info rfl (by decide) intC_len intC_one W.heap.size _ (floodN pt j) (j : Int) ⟨wr.heap.size, 0, none⟩ 1 rfl (Own.held hown ((Held.refl wr).alloc _)) rfl (cell_one_new _ _ _) (by omega) (by decide) (by simp; omega) ?_; intro g4 cp4 w4 hown4 hg4 hat4 hlt4)
          go_roundw
          case rel =>
            have hap2 : ∀ g, (Value.slice (some ⟨g4, 0, none⟩) ((floodN pt j).length + 1) cp4).ownBlock = some g → W.heap.size + 2 ≤ g ∧ g ≠ R ∧ (Value.slice A4 M.length cap4).ownBlock ≠ some g := by
              intro g hg
              have hg2 : some g4 = some g := hg
              injection hg2 with hg2
              subst hg2
              clear hg
              rcases hat4 with h9 | h9
              · exact HO.out.2.2 _ h9
              · have h10 := HO.out.2.1.lt
                have h11 := HO.out.2.1.ge
                simp at h9
                refine ⟨by omega, by omega, fun e => ?_⟩
                have := (World.ownsRow.lt HO.out.2.1.own _ e).2
                omega
            exact ⟨j + 1, by go_num, by omega, by rw [hst.out]; exact hown4, (HO.out.2.1.keep ((Held.refl wr).alloc _)).grown hg4 HO.out.2.2, hap2⟩
          case measure => (simp [intOf]) <;> omega
      · obtain rfl : j = N := by omega
        obtain ⟨Av, cpv, hv9, _⟩ := own_slice hown
        subst hv9
        clear hown hfx hap
        go_wp2
        have hfin := fin_two HO.out.2.1 _ (floodN pt j) HO.out.1 (fun g hg => by have := HO.out.2.2 g hg; omega)
        refine bodyPost_ret (v := .tuple #[.agg #[.int .i64 (j : Int), .slice A4 M.length cap4], .slice Av (floodN pt j).length cpv]) (by simp [results, Try.results9, go_sem, c2, c3]) rfl (by unfold flood; rw [hN]; exact hfin)
  · have hF := Lib.hid (fx_set HW0.out (Held.refl _).drew hk2.out ho1.out)
    obtain ⟨wX, hwX⟩ : ∃ x, x = ((w1.setCell ⟨W0.heap.size, 0, none⟩ (.int .i64 P)).setCell ⟨W0.heap.size, 1, none⟩ (.slice A1 L.length cap1)) := ⟨_, rfl⟩
    rw [← hwX] at hF ⊢
    clear hwX t0 z0 hs1 HC b0 b1 ho1 hk2 hk1 HW0
    generalize W0.heap.size = R at hF ⊢
    obtain ⟨c0, c1, c2, c3, c4, c5, c6, c7, c8⟩ := hF.out.cells
    go_wp2_with fail
    refine (HAD _).out.mono ?_
    rintro e w2 ⟨rfl, k2⟩
    have hF2 := Lib.hid (hF.out.keep k2)
    clear k2 c0 c1 c2 c3 c4 c5 c6 c7 c8 hF
    obtain ⟨c0, c1, c2, c3, c4, c5, c6, c7, c8⟩ := hF2.out.cells
    have hva := Lib.hid (valid_yes P A n cap L w2 (HS.out.held hF2.out.held) hcap HV.out)
    go_wp2_with fail
    refine hva.out.mono ?_
    rintro e w3 ⟨rfl, k3⟩
    have hF3 := Lib.hid (hF2.out.keep k3)
    clear k3 c0 c1 c2 c3 c4 c5 c6 c7 c8 hF2 hva
    obtain ⟨c0, c1, c2, c3, c4, c5, c6, c7, c8⟩ := hF3.out.cells
    have hfr3 : ((fr : Int) != 255) = true := by simp; omega
    have hfr4 : ¬ (fr : Int) = 255 := by omega
    have hle := Lib.hid (learn_any W w3 hF3.out.held _ P L fr pt hF3.out.own HV.out)
    go_wp2_with fail
    refine hle.out.mono ?_
    rintro e w4 ⟨tv, rfl, ho4, hh4, hk4⟩
    have hF4 := Lib.hid (hF3.out.put ho4 hh4 hk4)
    obtain ⟨A4, cap4, rfl, hcap4, hs4⟩ := own_shape' ho4
    obtain ⟨s5, s6⟩ := hF3.out.slot hk4
    have HM16 : Hid ((learnL L fr pt).length ≤ 16) := by show _ ≤ _; unfold learnL; rw [List.length_take]; omega
    generalize learnL L fr pt = M at *
    clear c0 c1 c2 c3 c4 c5 c6 c7 c8 ho4 hh4 hk4 hs4 hF3 hle
    obtain ⟨c0, c1, c2, c3, c4, c5, c6, c7, c8⟩ := hF4.out.cells
    have hto3 : ((to : Int) != 255) = true := by simp; omega
    have hto4 : ¬ (to : Int) = 255 := by omega
    have hpo := Lib.hid (port_none P A4 M.length cap4 M to _ (hF4.out.own.reads lrC_len).1 HM16.out hcap4 hf)
    clear hf
    go_wp2_with fail
    refine hpo.out.mono ?_
    rintro e w6 ⟨rfl, k6⟩
    have hF6 := Lib.hid (hF4.out.keep k6)
    clear k6 c0 c1 c2 c3 c4 c5 c6 c7 c8 hF4 hpo
    obtain ⟨c0, c1, c2, c3, c4, c5, c6, c7, c8⟩ := hF6.out.cells
    have HFX := hF6
    clear c0 c1 c2 c3 c6 c7 c8
    clear c4 c5
    obtain ⟨c0, c1, c2, c3, c4, c5, c6, c7, c8⟩ := HFX.out.cells
    obtain ⟨N, hN⟩ : ∃ N : Nat, P.toNat = N := ⟨_, rfl⟩
    have hPN : (P : Int) = N := by omega
    subst hPN
    go_wp2
    go_loopw [14, 15, 72] (fun v _ i wr => ∃ (j : Nat), i = .int .i64 j ∧ j ≤ N ∧ Own 3 1 intC W.heap.size wr v (floodN pt j) ∧ Fx W R (N : Int) A n cap (.slice A4 M.length cap4) M wr ∧ ∀ g, v.ownBlock = some g → W.heap.size + 2 ≤ g ∧ g ≠ R ∧ (Value.slice A4 M.length cap4).ownBlock ≠ some g) (fun _ _ i _ => N - (intOf i).toNat)
    case atStart => exact ⟨0, rfl, Nat.zero_le _, Own.nil _, HFX.out, fun g hg => by cases hg⟩
    case round =>
      obtain ⟨j, rfl, hj, hown, hfx, hap⟩ := hrel
      have hfl := floodN_len pt j
      have HO := Lib.hid (And.intro hown (And.intro hfx hap))
      have hbz := hfx.held.le
      obtain ⟨c0, c1, c2, c3, c4, c5, c6, c7, c8⟩ := hfx.cells
      by_cases hlt : (j : Int) < N
      · by_cases hjp : (j : Int) = pt
        · have hst : Hid (floodN pt (j + 1) = floodN pt j) := if_pos hjp
          have hjp2 : ((j : Int) != pt) = false := by simp [hjp]
          clear hown hfx hap
          go_wp2
          go_roundw
          case rel => exact ⟨j + 1, by go_num, by omega, by rw [hst.out]; exact HO.out.1, HO.out.2.1, HO.out.2.2⟩
          case measure => (simp [intOf]) <;> omega
        · have hst : Hid (floodN pt (j + 1) = floodN pt j ++ [(j : Int)]) := if_neg hjp
          have hjp2 : ((j : Int) != pt) = true := by simp [hjp]
          clear hfx hap
          go_wp2_with (at_builtin; refine Own.app (f := intC) _ rfl _ _ _ rfl _ 8 Try.underlying22 int_info rfl (by decide) intC_len intC_one W.heap.size _ (floodN pt j) (j : Int) ⟨wr.heap.size, 0, none⟩ 1 rfl (Own.held hown ((Held.refl wr).alloc _)) rfl (cell_one_new _ _ _) (by omega) (by decide) (by simp; omega) ?_; intro g4 cp4 w4 hown4 hg4 hat4 hlt4)
          go_roundw
          case rel =>
            have hap2 : ∀ g, (Value.slice (some ⟨g4, 0, none⟩) ((floodN pt j).length + 1) cp4).ownBlock = some g → W.heap.size + 2 ≤ g ∧ g ≠ R ∧ (Value.slice A4 M.length cap4).ownBlock ≠ some g := by
              intro g hg
              have hg2 : some g4 = some g := hg
              injection hg2 with hg2
              subst hg2
              clear hg
              rcases hat4 with h9 | h9
              · exact HO.out.2.2 _ h9
              · have h10 := HO.out.2.1.lt
                have h11 := HO.out.2.1.ge
                simp at h9
                refine ⟨by omega, by omega, fun e => ?_⟩
                have := (World.ownsRow.lt HO.out.2.1.own _ e).2
                omega
            exact ⟨j + 1, by go_num, by omega, by rw [hst.out]; exact hown4, (HO.out.2.1.keep ((Held.refl wr).alloc _)).grown hg4 HO.out.2.2, hap2⟩
          case measure => (simp [intOf]) <;> omega
      · obtain rfl : j = N := by omega
        obtain ⟨Av, cpv, hv9, _⟩ := own_slice hown
        subst hv9
        clear hown hfx hap
        go_wp2
        have hfin := fin_two HO.out.2.1 _ (floodN pt j) HO.out.1 (fun g hg => by have := HO.out.2.2 g hg; omega)
        refine bodyPost_ret (v := .tuple #[.agg #[.int .i64 (j : Int), .slice A4 M.length cap4], .slice Av (floodN pt j).length cpv]) (by simp [results, Try.results9, go_sem, c2, c3]) rfl (by unfold flood; rw [hN]; exact hfin)
set_option maxHeartbeats 4000000 in
theorem forward_bcast (P pt : Int) (A : Option Addr) (n cap : Nat) (L : List Lr) (f : ByteArray) (W : World) (h : Sl 2 lrC W A n L) (hA : A = none → n = 0) (hcap : n ≤ cap) (hv : VS P L) (h1 : 2 ≤ f.size) (h2 : f.size ≤ 128) (hp : 0 ≤ pt) (hp2 : pt < P)
    (to fr : Nat) (hto : f[0].toNat = to) (hfr : f[1].toNat = fr) (hfr2 : fr < 255) (hto2 : to = 255) :
    Calls Try.prog 9 #[.agg #[.int .i64 P, .slice A n cap], .int .i64 pt, .string f] W (Fw W P (learnL L fr pt) (flood P pt)) := by
  have hn16 : n ≤ 16 := by have := hv.len; have := h.1; omega
  have q1 := hv.lo
  have q2 := hv.hi
  obtain ⟨W0, hW0⟩ : ∃ W0, W0 = (W.alloc (.cells #[.int .i64 P, .slice A n cap] 26)).alloc (.cells #[.int .i64 0, .slice none 0 0] 26) := ⟨_, rfl⟩
  have hh0 : Held W W0 := by rw [hW0]; exact ((Held.refl W).alloc _).alloc _
  have b0 : W0.cell? ⟨W.heap.size, 0, none⟩ = some (.int .i64 P) := by rw [hW0]; simp
  have b1 : W0.cell? ⟨W.heap.size, 1, none⟩ = some (.slice A n cap) := by rw [hW0]; simp
  have HS := Lib.hid h
  have HV := Lib.hid hv
  have HW0 := Lib.hid hW0
  have HC := fun w (hw : Held W0 w) => Lib.hid ((clone_tab w A n cap L (h.held (hh0.step hw)) hA hn16).mono fun r w' hq => (let ⟨v', a1, a2, a3⟩ := hq; ⟨v', a1, Lib.hid a2, hw.step a3, Lib.hid a3, bcell a3⟩ : ∃ v', r = .returned v' ∧ Hid (Own 35 2 lrC w.heap.size w' v' L) ∧ Held W0 w' ∧ Hid (Held w w') ∧ (∀ b o, b < w.heap.size → w'.cell? ⟨b, o, none⟩ = w.cell? ⟨b, o, none⟩) ∧ (∀ b o, b < w.heap.size → w'.frozen? ⟨b, o, none⟩ = w.frozen? ⟨b, o, none⟩)))
  have HAD := fun w => Lib.hid (addr_any f w h1 h2 to fr hto hfr)
  clear h hv hA hto hfr
  go_enter Try.func9, Try.ntmps9
  go_wp2
  rw [← hW0]
  clear hW0
  go_region_held3 (fun w' => w'.cell? ⟨W.heap.size, 0, none⟩ = some (.int .i64 P) ∧ w'.cell? ⟨W.heap.size, 1, none⟩ = some (.slice A n cap) ∧ Held W0 w') (exact ⟨Held.cell (w := W0) (by first | assumption | exact (Held.refl W0).drew | exact ((Held.refl W0).alloc _).drew | exact Held.alloc (by assumption) _ | exact Held.drew (by assumption) | exact Held.drew (Held.alloc (by assumption) _) | exact Held.set (Held.set (by assumption) (Nat.le_refl _) _) (Nat.le_refl _) _) b0, Held.cell (w := W0) (by first | assumption | exact (Held.refl W0).drew | exact ((Held.refl W0).alloc _).drew | exact Held.alloc (by assumption) _ | exact Held.drew (by assumption) | exact Held.drew (Held.alloc (by assumption) _) | exact Held.set (Held.set (by assumption) (Nat.le_refl _) _) (Nat.le_refl _) _) b1, by first | assumption | exact (Held.refl W0).drew | exact ((Held.refl W0).alloc _).drew | exact Held.alloc (by assumption) _ | exact Held.drew (by assumption) | exact Held.drew (Held.alloc (by assumption) _) | exact Held.set (Held.set (by assumption) (Nat.le_refl _) _) (Nat.le_refl _) _⟩)
    (first | (go_at_call 16; refine (HC _ (by first | assumption | exact (Held.refl W0).drew | exact ((Held.refl W0).alloc _).drew | exact Held.alloc (by assumption) _ | exact Held.drew (by assumption) | exact Held.drew (Held.alloc (by assumption) _) | exact Held.set (Held.set (by assumption) (Nat.le_refl _) _) (Nat.le_refl _) _)).out.mono ?_; rintro r w1 ⟨v1, rfl, ho1, hk1, hk2, t0, z0⟩; obtain ⟨A1, cap1, rfl, hcap1, hs1⟩ := own_shape' ho1.out))
  · have hF := Lib.hid (fx_alloc HW0.out hk1 (Own.mono ho1.out (by exact Nat.le_refl _)))
    obtain ⟨wX, hwX⟩ : ∃ x, x = (w1.alloc (.cells #[.int .i64 P, .slice A1 L.length cap1] 26)) := ⟨_, rfl⟩
    rw [← hwX] at hF ⊢
    clear hwX t0 z0 hs1 HC b0 b1 ho1 hk2 hk1
    generalize w1.heap.size = R at hF ⊢
    obtain ⟨c0, c1, c2, c3, c4, c5, c6, c7, c8⟩ := hF.out.cells
    go_wp2_with fail
    refine (HAD _).out.mono ?_
    rintro e w2 ⟨rfl, k2⟩
    have hF2 := Lib.hid (hF.out.keep k2)
    clear k2 c0 c1 c2 c3 c4 c5 c6 c7 c8 hF
    obtain ⟨c0, c1, c2, c3, c4, c5, c6, c7, c8⟩ := hF2.out.cells
    have hva := Lib.hid (valid_yes P A n cap L w2 (HS.out.held hF2.out.held) hcap HV.out)
    go_wp2_with fail
    refine hva.out.mono ?_
    rintro e w3 ⟨rfl, k3⟩
    have hF3 := Lib.hid (hF2.out.keep k3)
    clear k3 c0 c1 c2 c3 c4 c5 c6 c7 c8 hF2 hva
    obtain ⟨c0, c1, c2, c3, c4, c5, c6, c7, c8⟩ := hF3.out.cells
    have hfr3 : ((fr : Int) != 255) = true := by simp; omega
    have hfr4 : ¬ (fr : Int) = 255 := by omega
    have hle := Lib.hid (learn_any W w3 hF3.out.held _ P L fr pt hF3.out.own HV.out)
    go_wp2_with fail
    refine hle.out.mono ?_
    rintro e w4 ⟨tv, rfl, ho4, hh4, hk4⟩
    have hF4 := Lib.hid (hF3.out.put ho4 hh4 hk4)
    obtain ⟨A4, cap4, rfl, hcap4, hs4⟩ := own_shape' ho4
    obtain ⟨s5, s6⟩ := hF3.out.slot hk4
    have HM16 : Hid ((learnL L fr pt).length ≤ 16) := by show _ ≤ _; unfold learnL; rw [List.length_take]; omega
    generalize learnL L fr pt = M at *
    clear c0 c1 c2 c3 c4 c5 c6 c7 c8 ho4 hh4 hk4 hs4 hF3 hle
    obtain ⟨c0, c1, c2, c3, c4, c5, c6, c7, c8⟩ := hF4.out.cells
    have hto3 : ((to : Int) != 255) = false := by simp [hto2]
    have hto4 : (to : Int) = 255 := by omega
    have HFX := hF4
    clear c0 c1 c2 c3 c6 c7 c8
    clear c4 c5
    obtain ⟨c0, c1, c2, c3, c4, c5, c6, c7, c8⟩ := HFX.out.cells
    obtain ⟨N, hN⟩ : ∃ N : Nat, P.toNat = N := ⟨_, rfl⟩
    have hPN : (P : Int) = N := by omega
    subst hPN
    go_wp2
    go_loopw [14, 15, 72] (fun v _ i wr => ∃ (j : Nat), i = .int .i64 j ∧ j ≤ N ∧ Own 3 1 intC W.heap.size wr v (floodN pt j) ∧ Fx W R (N : Int) A n cap (.slice A4 M.length cap4) M wr ∧ ∀ g, v.ownBlock = some g → W.heap.size + 2 ≤ g ∧ g ≠ R ∧ (Value.slice A4 M.length cap4).ownBlock ≠ some g) (fun _ _ i _ => N - (intOf i).toNat)
    case atStart => exact ⟨0, rfl, Nat.zero_le _, Own.nil _, HFX.out, fun g hg => by cases hg⟩
    case round =>
      obtain ⟨j, rfl, hj, hown, hfx, hap⟩ := hrel
      have hfl := floodN_len pt j
      have HO := Lib.hid (And.intro hown (And.intro hfx hap))
      have hbz := hfx.held.le
      obtain ⟨c0, c1, c2, c3, c4, c5, c6, c7, c8⟩ := hfx.cells
      by_cases hlt : (j : Int) < N
      · by_cases hjp : (j : Int) = pt
        · have hst : Hid (floodN pt (j + 1) = floodN pt j) := if_pos hjp
          have hjp2 : ((j : Int) != pt) = false := by simp [hjp]
          clear hown hfx hap
          go_wp2
          go_roundw
          case rel => exact ⟨j + 1, by go_num, by omega, by rw [hst.out]; exact HO.out.1, HO.out.2.1, HO.out.2.2⟩
          case measure => (simp [intOf]) <;> omega
        · have hst : Hid (floodN pt (j + 1) = floodN pt j ++ [(j : Int)]) := if_neg hjp
          have hjp2 : ((j : Int) != pt) = true := by simp [hjp]
          clear hfx hap
          go_wp2_with (at_builtin; refine Own.app (f := intC) _ rfl _ _ _ rfl _ 8 Try.underlying22 int_info rfl (by decide) intC_len intC_one W.heap.size _ (floodN pt j) (j : Int) ⟨wr.heap.size, 0, none⟩ 1 rfl (Own.held hown ((Held.refl wr).alloc _)) rfl (cell_one_new _ _ _) (by omega) (by decide) (by simp; omega) ?_; intro g4 cp4 w4 hown4 hg4 hat4 hlt4)
          go_roundw
          case rel =>
            have hap2 : ∀ g, (Value.slice (some ⟨g4, 0, none⟩) ((floodN pt j).length + 1) cp4).ownBlock = some g → W.heap.size + 2 ≤ g ∧ g ≠ R ∧ (Value.slice A4 M.length cap4).ownBlock ≠ some g := by
              intro g hg
              have hg2 : some g4 = some g := hg
              injection hg2 with hg2
              subst hg2
              clear hg
              rcases hat4 with h9 | h9
              · exact HO.out.2.2 _ h9
              · have h10 := HO.out.2.1.lt
                have h11 := HO.out.2.1.ge
                simp at h9
                refine ⟨by omega, by omega, fun e => ?_⟩
                have := (World.ownsRow.lt HO.out.2.1.own _ e).2
                omega
            exact ⟨j + 1, by go_num, by omega, by rw [hst.out]; exact hown4, (HO.out.2.1.keep ((Held.refl wr).alloc _)).grown hg4 HO.out.2.2, hap2⟩
          case measure => (simp [intOf]) <;> omega
      · obtain rfl : j = N := by omega
        obtain ⟨Av, cpv, hv9, _⟩ := own_slice hown
        subst hv9
        clear hown hfx hap
        go_wp2
        have hfin := fin_two HO.out.2.1 _ (floodN pt j) HO.out.1 (fun g hg => by have := HO.out.2.2 g hg; omega)
        refine bodyPost_ret (v := .tuple #[.agg #[.int .i64 (j : Int), .slice A4 M.length cap4], .slice Av (floodN pt j).length cpv]) (by simp [results, Try.results9, go_sem, c2, c3]) rfl (by unfold flood; rw [hN]; exact hfin)
  · have hF := Lib.hid (fx_set HW0.out (Held.refl _).drew hk2.out ho1.out)
    obtain ⟨wX, hwX⟩ : ∃ x, x = ((w1.setCell ⟨W0.heap.size, 0, none⟩ (.int .i64 P)).setCell ⟨W0.heap.size, 1, none⟩ (.slice A1 L.length cap1)) := ⟨_, rfl⟩
    rw [← hwX] at hF ⊢
    clear hwX t0 z0 hs1 HC b0 b1 ho1 hk2 hk1 HW0
    generalize W0.heap.size = R at hF ⊢
    obtain ⟨c0, c1, c2, c3, c4, c5, c6, c7, c8⟩ := hF.out.cells
    go_wp2_with fail
    refine (HAD _).out.mono ?_
    rintro e w2 ⟨rfl, k2⟩
    have hF2 := Lib.hid (hF.out.keep k2)
    clear k2 c0 c1 c2 c3 c4 c5 c6 c7 c8 hF
    obtain ⟨c0, c1, c2, c3, c4, c5, c6, c7, c8⟩ := hF2.out.cells
    have hva := Lib.hid (valid_yes P A n cap L w2 (HS.out.held hF2.out.held) hcap HV.out)
    go_wp2_with fail
    refine hva.out.mono ?_
    rintro e w3 ⟨rfl, k3⟩
    have hF3 := Lib.hid (hF2.out.keep k3)
    clear k3 c0 c1 c2 c3 c4 c5 c6 c7 c8 hF2 hva
    obtain ⟨c0, c1, c2, c3, c4, c5, c6, c7, c8⟩ := hF3.out.cells
    have hfr3 : ((fr : Int) != 255) = true := by simp; omega
    have hfr4 : ¬ (fr : Int) = 255 := by omega
    have hle := Lib.hid (learn_any W w3 hF3.out.held _ P L fr pt hF3.out.own HV.out)
    go_wp2_with fail
    refine hle.out.mono ?_
    rintro e w4 ⟨tv, rfl, ho4, hh4, hk4⟩
    have hF4 := Lib.hid (hF3.out.put ho4 hh4 hk4)
    obtain ⟨A4, cap4, rfl, hcap4, hs4⟩ := own_shape' ho4
    obtain ⟨s5, s6⟩ := hF3.out.slot hk4
    have HM16 : Hid ((learnL L fr pt).length ≤ 16) := by show _ ≤ _; unfold learnL; rw [List.length_take]; omega
    generalize learnL L fr pt = M at *
    clear c0 c1 c2 c3 c4 c5 c6 c7 c8 ho4 hh4 hk4 hs4 hF3 hle
    obtain ⟨c0, c1, c2, c3, c4, c5, c6, c7, c8⟩ := hF4.out.cells
    have hto3 : ((to : Int) != 255) = false := by simp [hto2]
    have hto4 : (to : Int) = 255 := by omega
    have HFX := hF4
    clear c0 c1 c2 c3 c6 c7 c8
    clear c4 c5
    obtain ⟨c0, c1, c2, c3, c4, c5, c6, c7, c8⟩ := HFX.out.cells
    obtain ⟨N, hN⟩ : ∃ N : Nat, P.toNat = N := ⟨_, rfl⟩
    have hPN : (P : Int) = N := by omega
    subst hPN
    go_wp2
    go_loopw [14, 15, 72] (fun v _ i wr => ∃ (j : Nat), i = .int .i64 j ∧ j ≤ N ∧ Own 3 1 intC W.heap.size wr v (floodN pt j) ∧ Fx W R (N : Int) A n cap (.slice A4 M.length cap4) M wr ∧ ∀ g, v.ownBlock = some g → W.heap.size + 2 ≤ g ∧ g ≠ R ∧ (Value.slice A4 M.length cap4).ownBlock ≠ some g) (fun _ _ i _ => N - (intOf i).toNat)
    case atStart => exact ⟨0, rfl, Nat.zero_le _, Own.nil _, HFX.out, fun g hg => by cases hg⟩
    case round =>
      obtain ⟨j, rfl, hj, hown, hfx, hap⟩ := hrel
      have hfl := floodN_len pt j
      have HO := Lib.hid (And.intro hown (And.intro hfx hap))
      have hbz := hfx.held.le
      obtain ⟨c0, c1, c2, c3, c4, c5, c6, c7, c8⟩ := hfx.cells
      by_cases hlt : (j : Int) < N
      · by_cases hjp : (j : Int) = pt
        · have hst : Hid (floodN pt (j + 1) = floodN pt j) := if_pos hjp
          have hjp2 : ((j : Int) != pt) = false := by simp [hjp]
          clear hown hfx hap
          go_wp2
          go_roundw
          case rel => exact ⟨j + 1, by go_num, by omega, by rw [hst.out]; exact HO.out.1, HO.out.2.1, HO.out.2.2⟩
          case measure => (simp [intOf]) <;> omega
        · have hst : Hid (floodN pt (j + 1) = floodN pt j ++ [(j : Int)]) := if_neg hjp
          have hjp2 : ((j : Int) != pt) = true := by simp [hjp]
          clear hfx hap
          go_wp2_with (at_builtin; refine Own.app (f := intC) _ rfl _ _ _ rfl _ 8 Try.underlying22 int_info rfl (by decide) intC_len intC_one W.heap.size _ (floodN pt j) (j : Int) ⟨wr.heap.size, 0, none⟩ 1 rfl (Own.held hown ((Held.refl wr).alloc _)) rfl (cell_one_new _ _ _) (by omega) (by decide) (by simp; omega) ?_; intro g4 cp4 w4 hown4 hg4 hat4 hlt4)
          go_roundw
          case rel =>
            have hap2 : ∀ g, (Value.slice (some ⟨g4, 0, none⟩) ((floodN pt j).length + 1) cp4).ownBlock = some g → W.heap.size + 2 ≤ g ∧ g ≠ R ∧ (Value.slice A4 M.length cap4).ownBlock ≠ some g := by
              intro g hg
              have hg2 : some g4 = some g := hg
              injection hg2 with hg2
              subst hg2
              clear hg
              rcases hat4 with h9 | h9
              · exact HO.out.2.2 _ h9
              · have h10 := HO.out.2.1.lt
                have h11 := HO.out.2.1.ge
                simp at h9
                refine ⟨by omega, by omega, fun e => ?_⟩
                have := (World.ownsRow.lt HO.out.2.1.own _ e).2
                omega
            exact ⟨j + 1, by go_num, by omega, by rw [hst.out]; exact hown4, (HO.out.2.1.keep ((Held.refl wr).alloc _)).grown hg4 HO.out.2.2, hap2⟩
          case measure => (simp [intOf]) <;> omega
      · obtain rfl : j = N := by omega
        obtain ⟨Av, cpv, hv9, _⟩ := own_slice hown
        subst hv9
        clear hown hfx hap
        go_wp2
        have hfin := fin_two HO.out.2.1 _ (floodN pt j) HO.out.1 (fun g hg => by have := HO.out.2.2 g hg; omega)
        refine bodyPost_ret (v := .tuple #[.agg #[.int .i64 (j : Int), .slice A4 M.length cap4], .slice Av (floodN pt j).length cpv]) (by simp [results, Try.results9, go_sem, c2, c3]) rfl (by unfold flood; rw [hN]; exact hfin)
theorem learn_vs {P : Int} {L : List Lr} (hv : VS P L) (a : Nat) (p : Int) (ha : a < 255) (hp : 0 ≤ p) (hp2 : p < P) : VS P (learnL L a p) := by
  have hsub : (L.filter fun x => decide (¬ x.a = a)).Pairwise (fun x y => ¬ x.a = y.a) := hv.dis.filter _
  have hall : (⟨a, p⟩ :: L.filter fun x => decide (¬ x.a = a)).Pairwise (fun x y : Lr => ¬ x.a = y.a) := by
    refine List.pairwise_cons.2 ⟨fun y hy => ?_, hsub⟩
    have := (List.mem_filter.1 hy).2
    simp at this
    exact fun e => this e.symm
  refine ⟨hv.lo, hv.hi, by unfold learnL; rw [List.length_take]; omega, fun x hx => ?_, hall.sublist (List.take_sublist _ _)⟩
  have hx2 := List.mem_of_mem_take hx
  rcases List.mem_cons.1 hx2 with rfl | hx3
  · exact ⟨ha, hp, hp2⟩
  · exact hv.ent x (List.mem_filter.1 hx3).1
/-- The port behind which an address was seen, by a walk through the table; -1: none. -/
def tgtF (a : Nat) : Int → List Lr → Int
  | t, [] => t
  | t, x :: M => tgtF a (if x.a = a then x.p else t) M
def tgt (M : List Lr) (a : Nat) : Int := tgtF a (-1) M
theorem tgtF_none (a : Nat) : ∀ (M : List Lr) (t : Int), (∀ x ∈ M, ¬ x.a = a) → tgtF a t M = t
  | [], _, _ => rfl
  | x :: M, t, h => by
    unfold tgtF
    rw [if_neg (h x (by simp)), tgtF_none a M t (fun y hy => h y (by simp [hy]))]
theorem tgtF_hit (a : Nat) : ∀ (M : List Lr) (t : Int), M.Pairwise (fun x y => ¬ x.a = y.a) → ∀ x ∈ M, x.a = a → tgtF a t M = x.p
  | [], _, _, x, hx, _ => by simp at hx
  | y :: M, t, hd, x, hx, ha => by
    obtain ⟨h1, h2⟩ := List.pairwise_cons.1 hd
    unfold tgtF
    rcases List.mem_cons.1 hx with rfl | hx
    · rw [if_pos ha, tgtF_none a M _ (fun z hz e => h1 z hz (by rw [ha, e]))]
    · rw [if_neg (fun e => h1 x hx (by rw [e, ha])), tgtF_hit a M _ h2 x hx ha]
def outs (P pt : Int) (M : List Lr) (to : Nat) : List Int := if tgt M to = -1 then flood P pt else if tgt M to = pt then [] else [tgt M to]
/-- A frame is sent. -/
theorem forward_any (P pt : Int) (A : Option Addr) (n cap : Nat) (L : List Lr) (f : ByteArray) (W : World) (h : Sl 2 lrC W A n L) (hA : A = none → n = 0) (hcap : n ≤ cap) (hv : VS P L) (h1 : 2 ≤ f.size) (h2 : f.size ≤ 128) (hp : 0 ≤ pt) (hp2 : pt < P)
    (to fr : Nat) (hto : f[0].toNat = to) (hfr : f[1].toNat = fr) (hfr2 : fr < 255) :
    Calls Try.prog 9 #[.agg #[.int .i64 P, .slice A n cap], .int .i64 pt, .string f] W (Fw W P (learnL L fr pt) (outs P pt (learnL L fr pt) to)) := by
  have hM := learn_vs hv fr pt hfr2 hp hp2
  have hto256 : to < 256 := by rw [← hto]; exact f[0].toNat_lt
  unfold outs
  by_cases h255 : to = 255
  · have ht : tgt (learnL L fr pt) to = -1 := tgtF_none _ _ _ (fun x hx e => by have := (hM.ent x hx).1; omega)
    rw [if_pos ht]
    exact forward_bcast P pt A n cap L f W h hA hcap hv h1 h2 hp hp2 to fr hto hfr hfr2 h255
  · rcases find_spec (learnL L fr pt) to with ⟨hf, hno⟩ | ⟨k, hk, hf, hka, _⟩
    · have ht : tgt (learnL L fr pt) to = -1 := tgtF_none _ _ _ hno
      rw [if_pos ht]
      exact forward_none P pt A n cap L f W h hA hcap hv h1 h2 hp hp2 to fr hto hfr hfr2 (by omega) hf
    · have ht : tgt (learnL L fr pt) to = (learnL L fr pt)[k].p := tgtF_hit _ _ _ hM.dis _ (List.getElem_mem hk) hka
      have hq := (hM.ent _ (List.getElem_mem hk)).2
      rw [ht, if_neg (by omega)]
      by_cases hne : (learnL L fr pt)[k].p = pt
      · rw [if_pos hne]
        exact forward_same P pt A n cap L f W h hA hcap hv h1 h2 hp hp2 to fr hto hfr hfr2 (by omega) k hk hf hne
      · rw [if_neg hne]
        exact forward_hit P pt A n cap L f W h hA hcap hv h1 h2 hp hp2 to fr hto hfr hfr2 (by omega) k hk hf hne
end Net
end Go.Proofs.Ytnmhmjcpiijkcaa
