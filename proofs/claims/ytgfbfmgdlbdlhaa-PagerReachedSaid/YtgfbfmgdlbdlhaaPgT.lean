/-
  Contracts: clone, has, Touch of the pager.
-/
import Derived.Test.YtgfbfmgdlbdlhaaPgE
set_option linter.unusedVariables false
set_option linter.unusedSimpArgs false
set_option maxRecDepth 100000
namespace Go.Proofs.Ytgfbfmgdlbdlhaa
open Go.RowKit Go.BigFrame Go.Sort
namespace Pg
/-- A pager of the call's own, handed back by value. -/
def RetG (lim hand : Int) (L : List Pg) (w : World) (e : Ending) (w' : World) : Prop := ∃ A cap, e = .returned (grV A L.length cap lim hand) ∧ L.length ≤ cap ∧ Own 37 3 pgC w.heap.size w' (.slice A L.length cap) L ∧ Held w w'
theorem GB.load {w : World} {b : Nat} {v : Value} {lim hand : Int} (h : w.heap[b]? = some (.cells #[v, .int .i64 lim, .int .i64 hand] 32 (0, 0))) : (loadVar 32 ⟨b, 0, none⟩).run Try.prog w = .ok (.agg #[v, .int .i64 lim, .int .i64 hand]) w := by
  have c0 := Bx.cell h 0 rfl
  have c1 := Bx.cell h 1 rfl
  have c2 := Bx.cell h 2 rfl
  simp [go_sem, c0, c1, c2]
set_option maxHeartbeats 4000000 in
theorem clone_any (A : Option Addr) (n cap : Nat) (lim hand : Int) (L : List Pg) (w : World) (h : Sl 3 pgC w A n L) (hA : A = none → n = 0) (hn : (n : Int) ≤ 1000000) :
    Calls Try.prog 35 #[grV A n cap lim hand] w (RetG lim hand L w) := by
  have HS := Lib.hid h
  clear h
  have HC := Lib.hid (fun w' (q : Held w w') => SlcPg.clone_any pgC_len pgC_one A n cap L w' (HS.out.held q) hA (by omega))
  have W0 := Lib.hid (((Held.refl w).alloc (.cells #[.slice A n cap, .int .i64 lim, .int .i64 hand] 32)).alloc (.cells #[.slice none 0 0, .int .i64 0, .int .i64 0] 32))
  show Calls Try.prog 35 #[.agg #[.slice A n cap, .int .i64 lim, .int .i64 hand]] w _
  go_enter Try.func35, Try.ntmps35
  go_wp2_with fail
  refine (HC.out _ W0.out).mono ?_
  rintro e w1 ⟨v, rfl, ho, h1⟩
  obtain ⟨A1, cap1, rfl, hcap, _⟩ := ho.shape
  have B0 : Hid (w1.heap[w.heap.size]? = some (.cells #[.slice A n cap, .int .i64 lim, .int .i64 hand] 32 (0, 0))) := (h1.block _ (by simp; omega)).trans (by rw [Below.heap_alloc _ _ _ (by simp)]; exact Bx.new w _)
  have B1 : Hid (w1.heap[w.heap.size + 1]? = some (.cells #[.slice none 0 0, .int .i64 0, .int .i64 0] 32 (0, 0))) := (h1.block _ (by simp)).trans (by have := Bx.new (w.alloc (.cells #[.slice A n cap, .int .i64 lim, .int .i64 hand] 32)) (.cells #[.slice none 0 0, .int .i64 0, .int .i64 0] 32); simpa using this)
  have W1 := Lib.hid (W0.out.step h1)
  have hog := Lib.hid (fun g (hg : (Value.slice A1 L.length cap1).ownBlock = some g) => (World.ownsRow.lt ho g hg).1)
  have HO := Lib.hid (Own.mono ho (W0.out.le))
  have c0 := Bx.cell B0.out 0 rfl
  have c1 := Bx.cell B0.out 1 rfl
  have c2 := Bx.cell B0.out 2 rfl
  have f0 := Bx.free B0.out 0
  have d0 := Bx.cell B1.out 0 rfl
  have d1 := Bx.cell B1.out 1 rfl
  have d2 := Bx.cell B1.out 2 rfl
  have g0 := Bx.free B1.out 0
  have g1 := Bx.free B1.out 1
  have g2 := Bx.free B1.out 2
  have hlt := Bx.lt B1.out
  clear ho h1
  go_wp2
  have hb : Hid (((((w1.setCell ⟨w.heap.size, 0, none⟩ (.slice A1 L.length cap1)).setCell ⟨w.heap.size + 1, 0, none⟩ (.slice A1 L.length cap1)).setCell ⟨w.heap.size + 1, 1, none⟩ (.int .i64 lim)).setCell ⟨w.heap.size + 1, 2, none⟩ (.int .i64 hand)).heap[w.heap.size + 1]? = some (.cells #[.slice A1 L.length cap1, .int .i64 lim, .int .i64 hand] 32 (0, 0))) := show _ = _ by
    rw [Bx.set (Bx.set (Bx.set ((Bx.far (by omega)).trans B1.out) 0 _) 1 _) 2 _]; rfl
  have hne : ∀ k, k ≤ w.heap.size + 1 → (Value.slice A1 L.length cap1).ownBlock ≠ some k := fun k hk he => by
    have := hog.out k he
    simp at this
    omega
  refine bodyPost_ret (Bx.res_c Try.results35 rfl (GB.load hb.out)) rfl ⟨A1, cap1, rfl, hcap, ?_, ?_⟩
  · exact ((((HO.out).far (hne _ (by omega))).far (hne _ (by omega))).far (hne _ (by omega))).far (hne _ (by omega))
  · exact (((W1.out.set (Nat.le_refl w.heap.size) _).set (Nat.le_succ w.heap.size) _).set (Nat.le_succ w.heap.size) _).set (Nat.le_succ w.heap.size) _
set_option maxHeartbeats 4000000 in
theorem has_any (A : Option Addr) (n cap : Nat) (lim hand pg : Int) (L : List Pg) (w : World) (h : Sl 3 pgC w A n L) (hn : (n : Int) ≤ 1000000) (hd : ∀ x ∈ L, (x.d.size : Int) ≤ 1000000) :
    Calls Try.prog 36 #[grV A n cap lim hand, .int .i64 pg] w fun e w' => e = .returned (.bool (valid L lim hand && (decide (0 ≤ pg) && decide (pg < n)))) ∧ Held w w' := by
  have W0 := Lib.hid ((Held.refl w).alloc (.cells #[.slice A n cap, .int .i64 lim, .int .i64 hand] 32))
  have HV := Lib.hid (fun w' (q : Held w w') => valid_any A n cap lim hand L w' (h.held q) hn hd)
  unfold grV at HV
  clear h hd
  obtain ⟨v, hv⟩ : ∃ v, valid L lim hand = v := ⟨_, rfl⟩
  rw [hv] at HV ⊢
  clear hv
  show Calls Try.prog 36 #[.agg #[.slice A n cap, .int .i64 lim, .int .i64 hand], .int .i64 pg] w _
  cases v
  · go_enter Try.func36, Try.ntmps36
    go_wp2_with (go_at_call 24; refine (HV.out _ W0.out).mono ?_; rintro e w1 ⟨rfl, h1⟩)
    go_ret
    exact ⟨rfl, W0.out.step h1⟩
  · have HB : Hid (∀ w', Held (w.alloc (.cells #[.slice A n cap, .int .i64 lim, .int .i64 hand] 32)) w' → w'.cell? ⟨w.heap.size, 0, none⟩ = some (.slice A n cap)) := fun w' q => q.cell (by simp)
    by_cases g1 : 0 ≤ pg
    · by_cases g2 : pg < n
      · have e1 : Hid (decide (0 ≤ pg) = true ∧ decide (pg < n) = true) := And.intro (by simp [g1]) (by simp [g2])
        go_enter Try.func36, Try.ntmps36
        go_wp2_with (go_at_call 24; refine (HV.out _ W0.out).mono ?_; rintro e w1 ⟨rfl, h1⟩; have b0 := HB.out _ h1)
        go_ret
        exact ⟨ret_b (by rw [e1.out.1, e1.out.2]; rfl), W0.out.step h1⟩
      · have e1 : Hid (decide (0 ≤ pg) = true ∧ decide (pg < n) = false) := And.intro (by simp [g1]) (by simpa using g2)
        go_enter Try.func36, Try.ntmps36
        go_wp2_with (go_at_call 24; refine (HV.out _ W0.out).mono ?_; rintro e w1 ⟨rfl, h1⟩; have b0 := HB.out _ h1)
        go_ret
        exact ⟨ret_b (by rw [e1.out.1, e1.out.2]; rfl), W0.out.step h1⟩
    · have e1 : Hid (decide (0 ≤ pg) = false) := show _ = _ by simpa using g1
      have g1' : decide (0 ≤ pg) = false := by simpa using g1
      clear g1
      go_enter Try.func36, Try.ntmps36
      go_wp2_with (go_at_call 24; refine (HV.out _ W0.out).mono ?_; rintro e w1 ⟨rfl, h1⟩; have b0 := HB.out _ h1)
      go_ret
      exact ⟨ret_b (by rw [e1.out]; rfl), W0.out.step h1⟩
end Pg
end Go.Proofs.Ytgfbfmgdlbdlhaa
