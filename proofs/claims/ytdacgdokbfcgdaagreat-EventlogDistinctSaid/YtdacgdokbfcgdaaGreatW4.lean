/-
  The machine of the reference, as cells of memory.
  A region that draws its order, walked one way: a condition on the world is kept until one operation (a store) has come up, for which all those are waited for that read (laws of no program).
-/
import Derived.Test.YtdacgdokbfcgdaaGreatW2
import Derived.Test.YtdacgdokbfcgdaaGreatW3
import Derived.OrdersHeld
import Derived.Deep.RegionHeld
set_option linter.unusedVariables false
set_option linter.unusedSimpArgs false
set_option maxRecDepth 100000
namespace Go.Proofs.YtdacgdokbfcgdaaGreat
open Go.RowKit Go.BigFrame Go.Sort Go.Lib
namespace Mem
theorem up1 {W w : World} {a m : Ck} {F : List Ck} (h : Mem W w (a :: m :: F)) : Mem W w (m :: a :: F) := h.permut (List.perm_middle (l₁ := [a]))
theorem dn1 {W w : World} {a m : Ck} {F : List Ck} (h : Mem W w (m :: a :: F)) : Mem W w (a :: m :: F) := h.permut (List.perm_middle (l₁ := [a])).symm
theorem up2 {W w : World} {a b m : Ck} {F : List Ck} (h : Mem W w (a :: b :: m :: F)) : Mem W w (m :: a :: b :: F) := h.permut (List.perm_middle (l₁ := [a, b]))
theorem dn2 {W w : World} {a b m : Ck} {F : List Ck} (h : Mem W w (m :: a :: b :: F)) : Mem W w (a :: b :: m :: F) := h.permut (List.perm_middle (l₁ := [a, b])).symm
theorem up3 {W w : World} {a b c m : Ck} {F : List Ck} (h : Mem W w (a :: b :: c :: m :: F)) : Mem W w (m :: a :: b :: c :: F) := h.permut (List.perm_middle (l₁ := [a, b, c]))
theorem dn3 {W w : World} {a b c m : Ck} {F : List Ck} (h : Mem W w (m :: a :: b :: c :: F)) : Mem W w (a :: b :: c :: m :: F) := h.permut (List.perm_middle (l₁ := [a, b, c])).symm
theorem up4 {W w : World} {a b c d m : Ck} {F : List Ck} (h : Mem W w (a :: b :: c :: d :: m :: F)) : Mem W w (m :: a :: b :: c :: d :: F) := h.permut (List.perm_middle (l₁ := [a, b, c, d]))
theorem dn4 {W w : World} {a b c d m : Ck} {F : List Ck} (h : Mem W w (m :: a :: b :: c :: d :: F)) : Mem W w (a :: b :: c :: d :: m :: F) := h.permut (List.perm_middle (l₁ := [a, b, c, d])).symm
end Mem
namespace Ma
/-- The devices and the rest of a machine. -/
structure Dv where
  keys : ByteArray
  ta : Bool
  td : Int
  tf : Bool
  dbs : Int
  dbl : Int
  dfr : Int
  dst : Int
  dcm : Int
  dob : Int
  dof : Int
  dod : ByteArray
  nfr : Int
  nln : Int
  npo : Bool
  nbu : Int
  nrc : Bool
  ngo : Int
  bta : Int
  bgi : Int
  cnt : Int
  wai : Bool
  hal : Bool
abbrev timV (d : Dv) : Array Value := #[.bool d.ta, .int .u32 d.td, .bool d.tf]
abbrev dskV (d : Dv) : Array Value := #[.int .u32 d.dbs, .int .u32 d.dbl, .int .u32 d.dfr, .int .i64 d.dst, .int .i64 d.dcm, .int .u32 d.dob, .int .u32 d.dof, .string d.dod]
abbrev nicV (d : Dv) : Array Value := #[.int .u32 d.nfr, .int .u32 d.nln, .bool d.npo, .int .u32 d.nbu, .bool d.nrc, .int .u32 d.ngo]
abbrev balV (d : Dv) : Array Value := #[.int .u32 d.bta, .int .u32 d.bgi]
def dvC (d : Dv) : List Value := [.string d.keys, .bool d.ta, .int .u32 d.td, .bool d.tf, .int .u32 d.dbs, .int .u32 d.dbl, .int .u32 d.dfr, .int .i64 d.dst, .int .i64 d.dcm, .int .u32 d.dob, .int .u32 d.dof, .string d.dod,
  .int .u32 d.nfr, .int .u32 d.nln, .bool d.npo, .int .u32 d.nbu, .bool d.nrc, .int .u32 d.ngo, .int .u32 d.bta, .int .u32 d.bgi, .int .u64 d.cnt, .bool d.wai, .bool d.hal]
/-- The numbers of the devices lie in their types. -/
structure DvOK (d : Dv) : Prop where
  td : Wd d.td
  dbs : Wd d.dbs
  dbl : Wd d.dbl
  dfr : Wd d.dfr
  dst : 0 ≤ d.dst ∧ d.dst ≤ 3
  dcm : 0 ≤ d.dcm ∧ d.dcm ≤ 4294967295
  dob : Wd d.dob
  dof : Wd d.dof
  nfr : Wd d.nfr
  nln : Wd d.nln
  nbu : Wd d.nbu
  ngo : Wd d.ngo
  bta : Wd d.bta
  bgi : Wd d.bgi
  cnt : 0 ≤ d.cnt ∧ d.cnt ≤ 1152921504606846976
  keys : d.keys.size ≤ 16
  dod : d.dod.size ≤ 128
/-- The cells of a machine, and what lies behind them in the same block. -/
def mcL (C : List Int) (mv : Value) (d : Dv) (X : List Value) : List Value := (C.map fun (n : Int) => Value.int .u32 n) ++ (mv :: dvC d ++ X)
def mcA (C : List Int) (mv : Value) (d : Dv) (X : List Value) : Array Value := (mcL C mv d X).toArray
section
variable {C : List Int} {mv : Value} {d : Dv} {X : List Value}
theorem mc_size (hC : C.length = 25) : (mcA C mv d X).size = 49 + X.length := by simp [mcA, mcL, dvC, hC]; omega
theorem mc_cpu (hC : C.length = 25) {j : Nat} (hj : j < 25) : (mcA C mv d X)[j]? = some (.int .u32 (C.getD j 0)) := by
  simp only [mcA, mcL, List.getElem?_toArray]
  rw [List.getElem?_append_left (by simp [hC, hj])]
  simp [hC, hj]
theorem mc_mem (hC : C.length = 25) : (mcA C mv d X)[25]? = some mv := by
  simp only [mcA, mcL, List.getElem?_toArray]
  rw [List.getElem?_append_right (by simp [hC])]
  simp [hC]
theorem mc_dv (hC : C.length = 25) {j : Nat} (hj : j < 23) {v : Value} (hv : (dvC d)[j]? = some v) : (mcA C mv d X)[26 + j]? = some v := by
  simp only [mcA, mcL, List.getElem?_toArray]
  rw [List.getElem?_append_right (by simp [hC]; omega)]
  rw [show 26 + j - (C.map fun (n : Int) => Value.int .u32 n).length = j + 1 by simp [hC]; omega]
  rw [List.cons_append, List.getElem?_cons_succ, List.getElem?_append_left (by simp [dvC]; omega)]
  exact hv
theorem mc_x (hC : C.length = 25) {j : Nat} {v : Value} (hv : X[j]? = some v) : (mcA C mv d X)[49 + j]? = some v := by
  simp only [mcA, mcL, List.getElem?_toArray]
  rw [List.getElem?_append_right (by simp [hC]; omega)]
  rw [show 49 + j - (C.map fun (n : Int) => Value.int .u32 n).length = (23 + j) + 1 by simp [hC]; omega]
  rw [List.cons_append, List.getElem?_cons_succ, List.getElem?_append_right (by simp [dvC])]
  rw [show 23 + j - (dvC d).length = j by simp [dvC]]
  exact hv
-- a part by value
theorem take_cpu (hC : C.length = 25) : ((mcA C mv d X).toList.drop 0).take 25 = (wA C).toList := by
  simp only [mcA, mcL, wA, List.drop_zero]
  rw [List.take_append_of_le_length (by simp [hC]), List.take_of_length_le (by simp [hC])]
theorem take_all (hC : C.length = 25) : ((mcA C mv d X).toList.drop 0).take 49 = (mcA C mv d []).toList := by
  simp only [mcA, mcL, List.drop_zero]
  rw [show (C.map fun (n : Int) => Value.int .u32 n) ++ (mv :: dvC d ++ X) = ((C.map fun (n : Int) => Value.int .u32 n) ++ (mv :: dvC d ++ [])) ++ X by simp]
  rw [List.take_append_of_le_length (by simp [hC, dvC]), List.take_of_length_le (by simp [hC, dvC])]
theorem drop_dv (hC : C.length = 25) (j : Nat) (hj : j ≤ 23) : (mcA C mv d X).toList.drop (26 + j) = (dvC d).drop j ++ X := by
  simp only [mcA, mcL]
  rw [List.drop_append, List.drop_of_length_le (by simp [hC]; omega), List.nil_append]
  rw [show 26 + j - (C.map fun (n : Int) => Value.int .u32 n).length = j + 1 by simp [hC]; omega]
  rw [List.cons_append, List.drop_succ_cons, List.drop_append, show j - (dvC d).length = 0 by simp [dvC]; omega, List.drop_zero]
theorem take_con (hC : C.length = 25) : ((mcA C mv d X).toList.drop 26).take 1 = (#[Value.string d.keys] : Array Value).toList := by rw [drop_dv hC 0 (by decide)]; rfl
theorem take_tim (hC : C.length = 25) : ((mcA C mv d X).toList.drop 27).take 3 = (timV d).toList := by rw [drop_dv hC 1 (by decide)]; rfl
theorem take_dsk (hC : C.length = 25) : ((mcA C mv d X).toList.drop 30).take 8 = (dskV d).toList := by rw [drop_dv hC 4 (by decide)]; rfl
theorem take_nic (hC : C.length = 25) : ((mcA C mv d X).toList.drop 38).take 6 = (nicV d).toList := by rw [drop_dv hC 12 (by decide)]; rfl
theorem take_bal (hC : C.length = 25) : ((mcA C mv d X).toList.drop 44).take 2 = (balV d).toList := by rw [drop_dv hC 18 (by decide)]; rfl
-- a part stored
theorem patch_cpu (hC : C.length = 25) {C' : List Int} (hC' : C'.length = 25) : Big.patch (mcA C mv d X) 0 (wA C') = mcA C' mv d X := by
  unfold Big.patch
  apply Array.ext'
  rw [wA_size, hC']
  simp only [mcA, mcL, wA, List.take_zero, List.nil_append, Nat.zero_add]
  rw [List.drop_append, List.drop_of_length_le (by simp [hC]), show 25 - (C.map fun (n : Int) => Value.int .u32 n).length = 0 by simp [hC], List.drop_zero, List.nil_append]
theorem patch_dv (hC : C.length = 25) (j : Nat) (news : Array Value) (h : j + news.size ≤ 23) (d' : Dv) (hd : (dvC d).take j ++ news.toList ++ (dvC d).drop (j + news.size) = dvC d') : Big.patch (mcA C mv d X) (26 + j) news = mcA C mv d' X := by
  unfold Big.patch
  apply Array.ext'
  rw [Nat.add_assoc, drop_dv hC _ h]
  simp only [mcA, mcL]
  rw [List.take_append, List.take_of_length_le (by simp [hC]; omega)]
  rw [show 26 + j - (C.map fun (n : Int) => Value.int .u32 n).length = j + 1 by simp [hC]; omega]
  rw [List.cons_append, List.take_succ_cons, List.take_append_of_le_length (by simp [dvC]; omega), ← hd]
  simp
theorem patch_con (hC : C.length = 25) (s : ByteArray) : Big.patch (mcA C mv d X) 26 #[.string s] = mcA C mv { d with keys := s } X := patch_dv hC 0 _ (by simp) _ rfl
theorem patch_tim (hC : C.length = 25) (a : Bool) (t : Int) (f : Bool) : Big.patch (mcA C mv d X) 27 #[.bool a, .int .u32 t, .bool f] = mcA C mv { d with ta := a, td := t, tf := f } X := patch_dv hC 1 _ (by simp) _ rfl
theorem patch_dsk (hC : C.length = 25) (x0 x1 x2 x3 x4 x5 x6 : Int) (x7 : ByteArray) : Big.patch (mcA C mv d X) 30 #[.int .u32 x0, .int .u32 x1, .int .u32 x2, .int .i64 x3, .int .i64 x4, .int .u32 x5, .int .u32 x6, .string x7] =
    mcA C mv { d with dbs := x0, dbl := x1, dfr := x2, dst := x3, dcm := x4, dob := x5, dof := x6, dod := x7 } X := patch_dv hC 4 _ (by simp) _ rfl
theorem patch_nic (hC : C.length = 25) (x0 x1 : Int) (x2 : Bool) (x3 : Int) (x4 : Bool) (x5 : Int) : Big.patch (mcA C mv d X) 38 #[.int .u32 x0, .int .u32 x1, .bool x2, .int .u32 x3, .bool x4, .int .u32 x5] =
    mcA C mv { d with nfr := x0, nln := x1, npo := x2, nbu := x3, nrc := x4, ngo := x5 } X := patch_dv hC 12 _ (by simp) _ rfl
theorem patch_bal (hC : C.length = 25) (x0 x1 : Int) : Big.patch (mcA C mv d X) 44 #[.int .u32 x0, .int .u32 x1] = mcA C mv { d with bta := x0, bgi := x1 } X := patch_dv hC 18 _ (by simp) _ rfl
-- a cell stored
theorem set_dv (hC : C.length = 25) (j : Nat) (hj : j < 23) (v : Value) (d' : Dv) (hd : (dvC d).set j v = dvC d') : (mcA C mv d X).setIfInBounds (26 + j) v = mcA C mv d' X := by
  apply Array.ext'
  simp only [mcA, mcL, Array.toList_setIfInBounds]
  rw [List.set_append_right _ _ (by simp [hC]; omega)]
  rw [show 26 + j - (C.map fun (n : Int) => Value.int .u32 n).length = j + 1 by simp [hC]; omega]
  rw [List.cons_append, List.set_cons_succ, List.set_append_left _ _ (by simp [dvC]; omega), hd, List.cons_append]
theorem set_bta (hC : C.length = 25) (v : Int) : (mcA C mv d X).setIfInBounds 44 (.int .u32 v) = mcA C mv { d with bta := v } X := set_dv hC 18 (by decide) _ _ rfl
theorem set_cnt (hC : C.length = 25) (v : Int) : (mcA C mv d X).setIfInBounds 46 (.int .u64 v) = mcA C mv { d with cnt := v } X := set_dv hC 20 (by decide) _ _ rfl
theorem set_wai (hC : C.length = 25) (v : Bool) : (mcA C mv d X).setIfInBounds 47 (.bool v) = mcA C mv { d with wai := v } X := set_dv hC 21 (by decide) _ _ rfl
theorem set_hal (hC : C.length = 25) (v : Bool) : (mcA C mv d X).setIfInBounds 48 (.bool v) = mcA C mv { d with hal := v } X := set_dv hC 22 (by decide) _ _ rfl
theorem set_mem (hC : C.length = 25) (v : Value) : (mcA C mv d X).setIfInBounds 25 v = mcA C v d X := by
  apply Array.ext'
  simp only [mcA, mcL, Array.toList_setIfInBounds]
  rw [List.set_append_right _ _ (by simp [hC])]
  rw [show 25 - (C.map fun (n : Int) => Value.int .u32 n).length = 0 by simp [hC]]
  rfl
end
theorem dv_one (d : Dv) : ∀ v ∈ dvC d, v.oneCell' = true := by
  intro v hv
  simp only [dvC, List.mem_cons, List.not_mem_nil, or_false] at hv
  rcases hv with rfl | rfl | rfl | rfl | rfl | rfl | rfl | rfl | rfl | rfl | rfl | rfl | rfl | rfl | rfl | rfl | rfl | rfl | rfl | rfl | rfl | rfl | rfl <;> rfl
theorem mc_one (C : List Int) {mv : Value} (hm : mv.oneCell' = true) (d : Dv) {X : List Value} (hX : ∀ v ∈ X, v.oneCell' = true) : ∀ v ∈ (mcA C mv d X).toList, v.oneCell' = true := by
  intro v hv
  simp only [mcA, mcL, List.mem_append, List.mem_cons] at hv
  rcases hv with hv | (rfl | hv) | hv
  · obtain ⟨n, _, rfl⟩ := List.mem_map.1 hv
    rfl
  · exact hm
  · exact dv_one d v hv
  · exact hX v hv
theorem uMac : ∃ fs, Tryz.prog.underlying 57 = some (.struct fs) := ⟨_, Tryz.underlying57⟩
theorem sMac : (Tryz.prog.info? 57).map (·.size) = some 49 := by kernel_rfl
theorem uCon : ∃ fs, Tryz.prog.underlying 47 = some (.struct fs) := ⟨_, Tryz.underlying47⟩
theorem sCon : (Tryz.prog.info? 47).map (·.size) = some 1 := by kernel_rfl
theorem uTim : ∃ fs, Tryz.prog.underlying 49 = some (.struct fs) := ⟨_, Tryz.underlying49⟩
theorem sTim : (Tryz.prog.info? 49).map (·.size) = some 3 := by kernel_rfl
theorem uDsk : ∃ fs, Tryz.prog.underlying 51 = some (.struct fs) := ⟨_, Tryz.underlying51⟩
theorem sDsk : (Tryz.prog.info? 51).map (·.size) = some 8 := by kernel_rfl
theorem uNic : ∃ fs, Tryz.prog.underlying 53 = some (.struct fs) := ⟨_, Tryz.underlying53⟩
theorem sNic : (Tryz.prog.info? 53).map (·.size) = some 6 := by kernel_rfl
theorem uBal : ∃ fs, Tryz.prog.underlying 55 = some (.struct fs) := ⟨_, Tryz.underlying55⟩
theorem sBal : (Tryz.prog.info? 55).map (·.size) = some 2 := by kernel_rfl
end Ma
end Go.Proofs.YtdacgdokbfcgdaaGreat

namespace Go.Proofs.YtdacgdokbfcgdaaGreat
open Go.RowKit Go.Lib
namespace Tl
theorem p2 {α : Type} (l : List α) (i : Nat) (a : α) : l.toArray.setIfInBounds i a = (l.set i a).toArray := List.setIfInBounds_toArray ..
theorem p3 {α : Type} {a b : α} {l : List α} : (a :: l).set 0 b = b :: l := rfl
theorem p4 {α : Type} {a b : α} {l : List α} {n : Nat} : (a :: l).set (n + 1) b = a :: l.set n b := rfl
variable {P : Program} {ops : Array Oper} {Q : Exit → Act → World → Prop} {md : Region.Mode} {S : World → Prop} {n : Nat}
/-- Operation n waits for operation i. -/
def waitsB (md : Region.Mode) (ops : Array Oper) (n i : Nat) : Bool := match ops[n]? with | some o => o.after.any (fun e => Region.binds md e && e.on == i) | none => true
def any (P : Program) (md : Region.Mode) (ops : Array Oper) (Q : Exit → Act → World → Prop) (S : World → Prop) (n : Nat) : Nat → Array Bool → Act → World → Prop
  | 0, listed, a, w => Region.ready md ops listed = [] ∧ Q .normal a w
  | fuel + 1, listed, a, w =>
    (Region.ready md ops listed = [] → Q .normal a w) ∧
    ∀ i ∈ Region.ready md ops listed, wpOp P ops Q i (fun a' w' => ((listed.setIfInBounds i true).getD n false = false → S w') ∧ any P md ops Q S n fuel (listed.setIfInBounds i true) a' w') a w
theorem of_any : ∀ (fuel : Nat) (listed : Array Bool) (a : Act) (w : World), any P md ops Q S n fuel listed a w → wpAny P md ops Q fuel listed a w
  | 0, _, _, _, h => h
  | fuel + 1, _, _, _, h => ⟨h.1, fun i hi => wpOp_mono (fun a' w' h' => of_any fuel _ a' w' h'.2) (h.2 i hi)⟩
theorem getD_ne {listed : Array Bool} {i n : Nat} (h : i ≠ n) (v d : Bool) : (listed.setIfInBounds i v).getD n d = listed.getD n d := by
  simp [Array.getD_eq_getD_getElem?, Array.getElem?_setIfInBounds, h]
theorem notAfter {i j : Nat} {oj : Oper} {listed : Array Bool} (hr : i ∈ Region.ready md ops listed) (hall : ∀ e ∈ oj.after, Region.binds md e = true → listed.getD e.on false = true) : ∀ e ∈ oj.after, Region.binds md e = true → e.on ≠ i := fun e he hb heq => by
  have h1 := hall e he hb
  have h0 := (mem_ready.1 hr).1
  rw [heq] at h1
  rcases Nat.lt_or_ge i listed.size with h' | h'
  · simp [h'] at h0 h1; rw [h0] at h1; cases h1
  · simp [Array.getElem?_eq_none h'] at h1
theorem first {i : Nat} {oi : Oper} {v : Value} (hL : waitsB md ops n i = true) (hin : i ≠ n) (hi : ops[i]? = some oi) (hsel : ∀ (j : Nat) (o : Oper) cs b, ops[j]? = some o → o.op ≠ .select cs b)
    (hQ : ∀ c a w, Q (.panic c) (a.put oi.dst v) w → Q (.panic c) a w) :
    ∀ (fuel : Nat) (listed : Array Bool) (a : Act) (w : World),
      (∀ j oj, ops[j]? = some oj → j ≠ i → listed.getD j true = false → (∀ e ∈ oj.after, Region.binds md e = true → e.on ≠ i) → oi.apart ops oj = true) →
      i ∈ Region.ready md ops listed → listed.getD n false = false → YieldsIf P ops S oi v a → S w →
      any P md ops Q S n fuel (listed.setIfInBounds i true) (a.put oi.dst v) w → any P md ops Q S n (fuel + 1) listed a w := by
  intro fuel
  induction fuel with
  | zero =>
    intro listed a w _ hr hn hy hS H
    refine ⟨fun h => (by rw [h] at hr; cases hr), fun j hj => ?_⟩
    by_cases hji : j = i
    · subst hji; exact hy.wpOp hi hS ⟨fun _ => hS, H⟩
    · have := ready_mono hj hji
      rw [H.1] at this
      cases this
  | succ fuel ih =>
    intro listed a w hfree hr hn hy hS H
    refine ⟨fun h => (by rw [h] at hr; cases hr), fun j hj => ?_⟩
    by_cases hji : j = i
    · subst hji; exact hy.wpOp hi hS ⟨fun _ => hS, H⟩
    · have h1 := H.2 j (ready_mono hj hji)
      obtain ⟨hjun, oj, hoj, hall⟩ := mem_ready.1 hj
      have hnot := notAfter (j := j) hr hall
      have hjn : j ≠ n := by
        rintro rfl
        unfold waitsB at hL
        rw [hoj] at hL
        obtain ⟨e, he, h4⟩ := Array.any_eq_true'.1 hL
        simp only [Bool.and_eq_true, beq_iff_eq] at h4
        exact absurd h4.2 (hnot e he h4.1)
      have h2 := wpOp_putIf hoj (hfree j oj hoj hji hjun hnot) (fun cs b => hsel i oi cs b hi) (fun cs b => hsel j oj cs b hoj) hQ hy h1
      have hfree' : ∀ k ok, ops[k]? = some ok → k ≠ i → (listed.setIfInBounds j true).getD k true = false →
          (∀ e ∈ ok.after, Region.binds md e = true → e.on ≠ i) → oi.apart ops ok = true := fun k ok hk hki hun hno => by
        refine hfree k ok hk hki ?_ hno
        by_cases hjk : j = k
        · subst hjk; exact hjun
        · rw [getD_set_ne true hjk] at hun; exact hun
      have hn2 : (listed.setIfInBounds j true).getD n false = false := by rw [getD_ne hjn]; exact hn
      refine wpOp_mono (fun a' w' h3 => ?_) h2
      have hS' : S w' := h3.2.1 (by rw [getD_ne hjn, getD_ne hin]; exact hn)
      refine ⟨fun _ => hS', ih (listed.setIfInBounds j true) a' w' hfree' (ready_mono hr (Ne.symm hji)) hn2 h3.1 hS' ?_⟩
      rw [Array.setIfInBounds_comm _ _ hji]
      exact h3.2.2
theorem firstFree {i : Nat} {oi : Oper} {v : Value} (hin : i ≠ n) (hi : ops[i]? = some oi) (hsel : ∀ (j : Nat) (o : Oper) cs b, ops[j]? = some o → o.op ≠ .select cs b)
    (hQ : ∀ c a w, Q (.panic c) (a.put oi.dst v) w → Q (.panic c) a w) :
    ∀ (fuel : Nat) (listed : Array Bool) (a : Act) (w : World),
      (∀ j oj, ops[j]? = some oj → j ≠ i → listed.getD j true = false → (∀ e ∈ oj.after, Region.binds md e = true → e.on ≠ i) → oi.apart ops oj = true) →
      i ∈ Region.ready md ops listed → YieldsIf P ops (fun _ => True) oi v a → (listed.getD n false = false → S w) →
      any P md ops Q S n fuel (listed.setIfInBounds i true) (a.put oi.dst v) w → any P md ops Q S n (fuel + 1) listed a w := by
  intro fuel
  induction fuel with
  | zero =>
    intro listed a w _ hr hy hS H
    refine ⟨fun h => (by rw [h] at hr; cases hr), fun j hj => ?_⟩
    by_cases hji : j = i
    · subst hji; exact hy.wpOp hi trivial ⟨fun h => hS (by rw [getD_ne hin] at h; exact h), H⟩
    · have := ready_mono hj hji
      rw [H.1] at this
      cases this
  | succ fuel ih =>
    intro listed a w hfree hr hy hS H
    refine ⟨fun h => (by rw [h] at hr; cases hr), fun j hj => ?_⟩
    by_cases hji : j = i
    · subst hji; exact hy.wpOp hi trivial ⟨fun h => hS (by rw [getD_ne hin] at h; exact h), H⟩
    · have h1 := H.2 j (ready_mono hj hji)
      obtain ⟨hjun, oj, hoj, hall⟩ := mem_ready.1 hj
      have hnot := notAfter (j := j) hr hall
      have h2 := wpOp_putIf hoj (hfree j oj hoj hji hjun hnot) (fun cs b => hsel i oi cs b hi) (fun cs b => hsel j oj cs b hoj) hQ hy h1
      have hfree' : ∀ k ok, ops[k]? = some ok → k ≠ i → (listed.setIfInBounds j true).getD k true = false →
          (∀ e ∈ ok.after, Region.binds md e = true → e.on ≠ i) → oi.apart ops ok = true := fun k ok hk hki hun hno => by
        refine hfree k ok hk hki ?_ hno
        by_cases hjk : j = k
        · subst hjk; exact hjun
        · rw [getD_set_ne true hjk] at hun; exact hun
      refine wpOp_mono (fun a' w' h3 => ?_) h2
      have hS' : (listed.setIfInBounds j true).getD n false = false → S w' := fun h => h3.2.1 (by rw [Array.setIfInBounds_comm _ _ (Ne.symm hji), getD_ne hin]; exact h)
      refine ⟨hS', ih (listed.setIfInBounds j true) a' w' hfree' (ready_mono hr (Ne.symm hji)) h3.1 hS' ?_⟩
      rw [Array.setIfInBounds_comm _ _ hji]
      exact h3.2.2
theorem take {i : Nat} {oi : Oper} {v : Value} {fuel : Nat} {listed : Array Bool} {a : Act} {w : World} (hi : ops[i]? = some oi)
    (hL : (waitsB md ops n i && i != n && !(listed.getD n false)) = true) (hs : Region.noSelect ops = true) (hf : Region.free md ops listed i = true) (hr : (Region.ready md ops listed).contains i = true)
    (hQ : ∀ c a w, Q (.panic c) (a.put oi.dst v) w → Q (.panic c) a w) (hy : YieldsIf P ops S oi v a) (hS : S w)
    (h : any P md ops Q S n fuel (listed.setIfInBounds i true) (a.put oi.dst v) w) : any P md ops Q S n (fuel + 1) listed a w := by
  simp only [Bool.and_eq_true, bne_iff_ne, ne_eq, Bool.not_eq_true'] at hL
  exact first hL.1.1 hL.1.2 hi (Region.noSelect_spec hs) hQ fuel listed a w (Region.free_spec hi hf) (by simpa using hr) hL.2 hy hS h
/-- The same for an operation that yields whatever the world is: while the condition holds .. -/
theorem takeF {i : Nat} {oi : Oper} {v : Value} {fuel : Nat} {listed : Array Bool} {a : Act} {w : World} (hi : ops[i]? = some oi)
    (hL : (i != n) = true) (hs : Region.noSelect ops = true) (hf : Region.free md ops listed i = true) (hr : (Region.ready md ops listed).contains i = true)
    (hQ : ∀ c a w, Q (.panic c) (a.put oi.dst v) w → Q (.panic c) a w) (hy : YieldsIf P ops (fun _ => True) oi v a) (hS : S w)
    (h : any P md ops Q S n fuel (listed.setIfInBounds i true) (a.put oi.dst v) w) : any P md ops Q S n (fuel + 1) listed a w :=
  firstFree (by simpa using hL) hi (Region.noSelect_spec hs) hQ fuel listed a w (Region.free_spec hi hf) (by simpa using hr) hy (fun _ => hS) h
/-- .. and behind the store. -/
theorem takeD {i : Nat} {oi : Oper} {v : Value} {fuel : Nat} {listed : Array Bool} {a : Act} {w : World} (hi : ops[i]? = some oi)
    (hL : (i != n && listed.getD n false) = true) (hs : Region.noSelect ops = true) (hf : Region.free md ops listed i = true) (hr : (Region.ready md ops listed).contains i = true)
    (hQ : ∀ c a w, Q (.panic c) (a.put oi.dst v) w → Q (.panic c) a w) (hy : YieldsIf P ops (fun _ => True) oi v a)
    (h : any P md ops Q S n fuel (listed.setIfInBounds i true) (a.put oi.dst v) w) : any P md ops Q S n (fuel + 1) listed a w := by
  simp only [Bool.and_eq_true, bne_iff_ne, ne_eq] at hL
  exact firstFree hL.1 hi (Region.noSelect_spec hs) hQ fuel listed a w (Region.free_spec hi hf) (by simpa using hr) hy (fun h => by rw [hL.2] at h; cases h) h
abbrev StepOf (P : Program) (ops : Array Oper) (Q : Exit → Act → World → Prop) (C : Act → World → Prop) (o : Oper) (a : Act) (w : World) : Prop :=
  ∀ K' : Act → World → Prop, Shut (∀ a w, C a w → K' a w) → if Region.wanted o (yielded ops a.tmps) = true then Oper.wp P o a w K' Q else K' (a.put o.dst undef) w
/-- The one operation that comes up next, before the store. -/
theorem step {i : Nat} {o : Oper} {fuel : Nat} {listed : Array Bool} {a : Act} {w : World} (hr : Region.ready md ops listed = [i]) (ho : ops[i]? = some o)
    (h : ∀ K' : Act → World → Prop, Shut (∀ a w, S w → (S w → any P md ops Q S n fuel (listed.setIfInBounds i true) a w) → K' a w) → if Region.wanted o (yielded ops a.tmps) = true then Oper.wp P o a w K' Q else K' (a.put o.dst undef) w) :
    any P md ops Q S n (fuel + 1) listed a w := by
  refine ⟨fun h0 => (by rw [hr] at h0; cases h0), fun j hj => ?_⟩
  rw [hr, List.mem_singleton] at hj
  subst hj
  exact wpOp_step ho (fun K' hK => h K' (fun a w hS hW => hK a w ⟨fun _ => hS, hW hS⟩))
/-- The store, or what comes up behind it: nothing is asked of the world. -/
theorem stepN {i : Nat} {o : Oper} {fuel : Nat} {listed : Array Bool} {a : Act} {w : World} (hN : (listed.setIfInBounds i true).getD n false = true) (hr : Region.ready md ops listed = [i]) (ho : ops[i]? = some o)
    (h : ∀ K' : Act → World → Prop, Shut (∀ a w, any P md ops Q S n fuel (listed.setIfInBounds i true) a w → K' a w) → if Region.wanted o (yielded ops a.tmps) = true then Oper.wp P o a w K' Q else K' (a.put o.dst undef) w) :
    any P md ops Q S n (fuel + 1) listed a w := by
  refine ⟨fun h0 => (by rw [hr] at h0; cases h0), fun j hj => ?_⟩
  rw [hr, List.mem_singleton] at hj
  subst hj
  exact wpOp_step ho (fun K' hK => h K' (fun a w hW => hK a w ⟨fun h => (by rw [hN] at h; cases h), hW⟩))
/-- Two may come up next, before the store. -/
theorem two {i j : Nat} {o q : Oper} {fuel : Nat} {listed : Array Bool} {a : Act} {w : World} (hr : Region.ready md ops listed = [i, j]) (ho : ops[i]? = some o) (hq : ops[j]? = some q)
    (h : ∀ K' : Act → World → Prop, Shut (∀ a w, S w → (S w → any P md ops Q S n fuel (listed.setIfInBounds i true) a w) → K' a w) → if Region.wanted o (yielded ops a.tmps) = true then Oper.wp P o a w K' Q else K' (a.put o.dst undef) w)
    (h2 : ∀ K' : Act → World → Prop, Shut (∀ a w, S w → (S w → any P md ops Q S n fuel (listed.setIfInBounds j true) a w) → K' a w) → if Region.wanted q (yielded ops a.tmps) = true then Oper.wp P q a w K' Q else K' (a.put q.dst undef) w) :
    any P md ops Q S n (fuel + 1) listed a w := by
  refine ⟨fun h0 => (by rw [hr] at h0; cases h0), fun k hk => ?_⟩
  rw [hr, List.mem_cons, List.mem_singleton] at hk
  rcases hk with rfl | rfl
  · exact wpOp_step ho (fun K' hK => h K' (fun a w hS hW => hK a w ⟨fun _ => hS, hW hS⟩))
  · exact wpOp_step hq (fun K' hK => h2 K' (fun a w hS hW => hK a w ⟨fun _ => hS, hW hS⟩))
/-- Several may come up next, before the store. -/
def All (P : Program) (md : Region.Mode) (ops : Array Oper) (Q : Exit → Act → World → Prop) (S : World → Prop) (n fuel : Nat) (listed : Array Bool) (a : Act) (w : World) (rs : List Nat) : Prop :=
  ∀ i ∈ rs, wpOp P ops Q i (fun a' w' => ((listed.setIfInBounds i true).getD n false = false → S w') ∧ any P md ops Q S n fuel (listed.setIfInBounds i true) a' w') a w
theorem All.nil {fuel : Nat} {listed : Array Bool} {a : Act} {w : World} : All P md ops Q S n fuel listed a w [] := fun _ h => by cases h
theorem All.cons {fuel : Nat} {listed : Array Bool} {a : Act} {w : World} {i : Nat} {o : Oper} {rs : List Nat} (ho : ops[i]? = some o)
    (h : ∀ K' : Act → World → Prop, Shut (∀ a w, S w → (S w → any P md ops Q S n fuel (listed.setIfInBounds i true) a w) → K' a w) → if Region.wanted o (yielded ops a.tmps) = true then Oper.wp P o a w K' Q else K' (a.put o.dst undef) w)
    (hs : All P md ops Q S n fuel listed a w rs) : All P md ops Q S n fuel listed a w (i :: rs) := fun j hj => by
  rcases List.mem_cons.1 hj with rfl | hj
  · exact wpOp_step ho (fun K' hK => h K' (fun a w hS hW => hK a w ⟨fun _ => hS, hW hS⟩))
  · exact hs j hj
theorem many {rs : List Nat} {fuel : Nat} {listed : Array Bool} {a : Act} {w : World} (hr : Region.ready md ops listed = rs) (hne : rs ≠ []) (h : All P md ops Q S n fuel listed a w rs) : any P md ops Q S n (fuel + 1) listed a w :=
  ⟨fun h0 => absurd (hr ▸ h0) hne, hr ▸ h⟩
theorem done {listed : Array Bool} {a : Act} {w : World} (hr : Region.ready md ops listed = []) (h : Q .normal a w) : ∀ fuel, any P md ops Q S n fuel listed a w
  | 0 => ⟨hr, h⟩
  | _ + 1 => ⟨fun _ => h, by rw [hr]; simp⟩
theorem start {id : Nat} {a : Act} {w : World} (n : Nat) (S : World → Prop) (hm : P.follows .mixedOrders = true) (hS : S w.drew)
    (h : S w.drew → any P .any ops Q S n ops.size (Array.replicate ops.size false) a w.drew) : (Code.region id ops true).wp P Q a w :=
  wp_region_any hm (of_any (n := n) (S := S) _ _ _ _ (h hS))
theorem tk (i : Nat) (oi : Oper) (v : Value) {fuel : Nat} {listed : Array Bool} {a : Act} {w : World} (hi : ops[i]? = some oi) (hy : ∀ w, S w → (execOp a.eval oi).run P w = .ok (.value v) w) (hS : S w)
    (h : any P md ops Q S n fuel (listed.setIfInBounds i true) (a.put oi.dst v) w)
    (hw : Region.wanted oi (yielded ops a.tmps) = true := by rfl) (hL : (waitsB md ops n i && i != n && !(listed.getD n false)) = true := by kernel_rfl) (hs : Region.noSelect ops = true := by kernel_rfl) (hf : Region.free md ops listed i = true := by kernel_rfl) (hr : (Region.ready md ops listed).contains i = true := by kernel_rfl)
    (hQ : ∀ c a w, Q (.panic c) (a.put oi.dst v) w → Q (.panic c) a w := by exact fun _ _ _ h => h) : any P md ops Q S n (fuel + 1) listed a w :=
  take hi hL hs hf hr hQ (.inl ⟨hw, hy⟩) hS h
theorem ty (i : Nat) (oi : Oper) (v : Value) {fuel : Nat} {listed : Array Bool} {a : Act} {w : World} (hi : ops[i]? = some oi) (hy : YieldsIf P ops S oi v a) (hS : S w)
    (h : any P md ops Q S n fuel (listed.setIfInBounds i true) (a.put oi.dst v) w)
    (hL : (waitsB md ops n i && i != n && !(listed.getD n false)) = true := by kernel_rfl) (hs : Region.noSelect ops = true := by kernel_rfl) (hf : Region.free md ops listed i = true := by kernel_rfl) (hr : (Region.ready md ops listed).contains i = true := by kernel_rfl)
    (hQ : ∀ c a w, Q (.panic c) (a.put oi.dst v) w → Q (.panic c) a w := by exact fun _ _ _ h => h) : any P md ops Q S n (fuel + 1) listed a w :=
  take hi hL hs hf hr hQ hy hS h
theorem tf (i : Nat) (oi : Oper) (v : Value) {fuel : Nat} {listed : Array Bool} {a : Act} {w : World} (hi : ops[i]? = some oi) (hy : ∀ w, (execOp a.eval oi).run P w = .ok (.value v) w) (hS : S w)
    (h : any P md ops Q S n fuel (listed.setIfInBounds i true) (a.put oi.dst v) w)
    (hw : Region.wanted oi (yielded ops a.tmps) = true := by rfl) (hL : (i != n) = true := by kernel_rfl) (hs : Region.noSelect ops = true := by kernel_rfl) (hf : Region.free md ops listed i = true := by kernel_rfl) (hr : (Region.ready md ops listed).contains i = true := by kernel_rfl)
    (hQ : ∀ c a w, Q (.panic c) (a.put oi.dst v) w → Q (.panic c) a w := by exact fun _ _ _ h => h) : any P md ops Q S n (fuel + 1) listed a w :=
  takeF hi hL hs hf hr hQ (.inl ⟨hw, fun w _ => hy w⟩) hS h
theorem td (i : Nat) (oi : Oper) (v : Value) {fuel : Nat} {listed : Array Bool} {a : Act} {w : World} (hi : ops[i]? = some oi) (hy : ∀ w, (execOp a.eval oi).run P w = .ok (.value v) w)
    (h : any P md ops Q S n fuel (listed.setIfInBounds i true) (a.put oi.dst v) w)
    (hw : Region.wanted oi (yielded ops a.tmps) = true := by rfl) (hL : (i != n && listed.getD n false) = true := by kernel_rfl) (hs : Region.noSelect ops = true := by kernel_rfl) (hf : Region.free md ops listed i = true := by kernel_rfl) (hr : (Region.ready md ops listed).contains i = true := by kernel_rfl)
    (hQ : ∀ c a w, Q (.panic c) (a.put oi.dst v) w → Q (.panic c) a w := by exact fun _ _ _ h => h) : any P md ops Q S n (fuel + 1) listed a w :=
  takeD hi hL hs hf hr hQ (.inl ⟨hw, fun w _ => hy w⟩) h
end Tl
end Go.Proofs.YtdacgdokbfcgdaaGreat
