/-
  Contracts of the reference's assembler: the first pass.
  Contracts of the reference's assembler: the instruction of a statement.
  Contracts of the reference's assembler: Assemble at sources that it accepts.
  A machine that is made from numbers (vmfleetmake.Machine).
-/
import Derived.Test.YtdacgdokbfcgdaaGreatW18
import Derived.Test.YtdacgdokbfcgdaaGreatW7
import Derived.Test.YtdacgdokbfcgdaaGreatW17
set_option linter.unusedVariables false
set_option linter.unusedSimpArgs false
set_option maxRecDepth 100000
namespace Go.Proofs.YtdacgdokbfcgdaaGreat
open Go.RowKit Go.BigFrame Go.Lib
namespace As
/-- A statement as it stands in memory. -/
structure SmR where
  w : List UInt8
  op : Nat
  A : Option Addr
  n : Nat
  cap : Nat
  l : List Arg
  line : Nat
  at_ : Nat
  sz : Nat
def SmR.g (x : SmR) : Stm := ⟨x.w, x.op, x.l, x.line, x.at_, x.sz⟩
def smC (x : SmR) : List Value := [.string ⟨x.w.toArray⟩, .int .i64 (x.op : Int), .slice x.A x.n x.cap, .int .i64 (x.line : Int), .int .i64 (x.at_ : Int), .int .i64 (x.sz : Int)]
theorem smC_len (x : SmR) : (smC x).length = 6 := rfl
theorem smC_one (x : SmR) : ∀ u ∈ smC x, u.oneCell' = true := by intro u hu; simp [smC] at hu; rcases hu with rfl | rfl | rfl | rfl | rfl | rfl <;> rfl
structure Smt (B : Nat) (w : World) (x : SmR) : Prop where
  sl : Sl 3 argC w x.A x.n x.l
  ty : Ty 118 B w x.A x.n
  cap : x.n ≤ x.cap
theorem Smt.held {B : Nat} {w w' : World} {x : SmR} (h : Smt B w x) (k : Held w w') : Smt B w' x := ⟨h.sl.held k, h.ty.held k, h.cap⟩
theorem Smt.chg {B : Nat} {w w' : World} {x : SmR} (h : Smt B w x) {g : Option Nat} (k : Chg 118 B w w' g) : Smt B w' x := ⟨h.sl.chg h.ty k, h.ty.chg k, h.cap⟩
def Smts (B : Nat) (w : World) (R : List SmR) : Prop := ∀ x ∈ R, Smt B w x
theorem Smts.held {B : Nat} {w w' : World} {R : List SmR} (h : Smts B w R) (k : Held w w') : Smts B w' R := fun x hx => (h x hx).held k
theorem Smts.chg {B : Nat} {w w' : World} {R : List SmR} (h : Smts B w R) {g : Option Nat} (k : Chg 118 B w w' g) : Smts B w' R := fun x hx => (h x hx).chg k
theorem Smts.nil (B : Nat) (w : World) : Smts B w [] := fun x h => by simp at h
theorem Smts.snoc {B : Nat} {w : World} {R : List SmR} (h : Smts B w R) {x : SmR} (hx : Smt B w x) : Smts B w (R ++ [x]) := fun y hy => by
  rcases List.mem_append.1 hy with hy | hy
  · exact h y hy
  · rw [List.mem_singleton] at hy; subst hy; exact hx
theorem info_sym : (Tryz.prog.info? 146).map (fun i => (i.zero, i.size, i.bytes)) = some (some (.agg #[.string ⟨#[]⟩, .int .u32 0]), 2, 24) := by kernel_rfl
theorem info_stm : (Tryz.prog.info? 116).map (fun i => (i.zero, i.size, i.bytes)) = some (some (.agg #[.string ⟨#[]⟩, .int .i64 0, .slice none 0 0, .int .i64 0, .int .i64 0, .int .i64 0]), 6, 72) := by kernel_rfl
theorem ne_er : 94 ≠ 118 := by decide
theorem ne_sy : 146 ≠ 118 := by decide
theorem ne_st : 116 ≠ 118 := by decide
theorem go_len : ∀ (l acc : List UInt8), ∀ x ∈ lines.go l acc, x.length ≤ acc.length + l.length
  | [], acc, x, h => by
    rw [lines.go] at h
    split at h
    · simp at h
    · simp at h; subst h; simp
  | c :: r, acc, x, h => by
    rw [lines.go] at h
    split at h
    · rcases List.mem_cons.1 h with rfl | h
      · simp
      · have := go_len r [] x h
        simp only [List.length_nil, List.length_cons] at this ⊢; omega
    · have := go_len r _ x h
      simp only [List.length_append, List.length_cons, List.length_nil] at this ⊢; omega
theorem lines_len (s : List UInt8) : (lines s).length ≤ s.length := by
  rw [lines_go]
  have key : ∀ (l acc : List UInt8), (lines.go l acc).length ≤ l.length + (if acc = [] then 0 else 1) := by
    intro l
    induction l with
    | nil => intro acc; rw [lines.go]; split <;> simp_all
    | cons c r ih =>
      intro acc
      rw [lines.go]
      split
      · have := ih []
        simp only [List.length_cons, if_true] at this ⊢
        split <;> omega
      · have := ih (acc ++ [c])
        simp at this
        simp only [List.length_cons]
        split <;> omega
  simpa using key s []
/-- One line of the first pass. -/
theorem read_step {x : List UInt8} {xs : List (List UInt8)} {i : Nat} {r : Rd} {R : Rd} (h : readL (x :: xs) i r = some R) : ∃ lb st, parsed x = some (lb, st) ∧ st.w ≠ [] ∧ st.line = 0 ∧ st.at_ = 0 ∧ (lb ≠ [] → address r.l lb = none) ∧ r.at_ + st.sz ≤ 1024 ∧
    readL xs (i + 1) ⟨if lb = [] then r.l else r.l ++ [⟨lb, 4 * r.at_⟩], r.s ++ [⟨st.w, st.op, st.l, i + 1, r.at_, st.sz⟩], r.at_ + st.sz⟩ = some R := by
  rw [readL] at h
  cases hp : parsed x with
  | none => rw [hp] at h; cases h
  | some q =>
    obtain ⟨lb, st⟩ := q
    rw [hp] at h
    obtain ⟨_, L, T, _, hst, _⟩ := par_cases hp
    obtain ⟨t, r', p, a, _, _, hne, _, _, _, _, rfl⟩ := stm_cases hst
    simp only at h
    split at h
    · cases h
    rename_i hl
    simp only [Bool.and_eq_true, decide_eq_true_eq, not_and] at hl
    simp only [ne_eq, hne, not_false_eq_true, if_true] at h
    refine ⟨lb, _, rfl, hne, rfl, rfl, fun e => ?_, ?_⟩
    · have := hl e
      cases ha : address r.l lb with
      | none => rfl
      | some v => rw [ha] at this; simp at this
    · by_cases e : lb = []
      · subst e; simpa using h
      · simpa [e] using h
theorem res_ttc {fn : Func} {tmps : Array Value} {w : World} {a b k l : Nat} {t : TypeId} {v : Value} (hr : fn.results = #[.tmp k, .tmp l, .cell a t]) (ha : tmps.getD a undef = .pointer (some ⟨b, 0, none⟩)) (hl : (loadVar t ⟨b, 0, none⟩).run Tryz.prog w = .ok v w) : (results fn tmps).run Tryz.prog w = .ok (.tuple #[tmps.getD k undef, tmps.getD l undef, v]) w := by
  unfold results
  rw [hr]
  simp only [List.mapM_toArray, List.mapM_cons, List.mapM_nil, ha, asAddr, pure_bind, Sem.run_bind, Sem.run_map, hl, Result.andThen_ok, Sem.run_pure, map_pure]
  rfl
theorem load_err {w : World} {b : Nat} {y0 y1 : Value} {t : TypeId} (h : w.heap[b]? = some (.cells #[y0, y1] t (0, 0))) : (loadVar 94 ⟨b, 0, none⟩).run Tryz.prog w = .ok (.agg #[y0, y1]) w := by
  have c0 := Bx.cell h 0 (v := y0) rfl
  have c1 := Bx.cell h 1 (v := y1) rfl
  simp [loadVar, go_sem, c0, c1]
def ReadTo (R : Rd) (w : World) (e : Ending) (w' : World) : Prop := ∃ A n c A' n' c' RS, e = .returned (.tuple #[.slice A n c, .slice A' n' c', .agg #[.int .i64 0, .int .i64 0]]) ∧
  Own 146 2 symC w.heap.size w' (.slice A n c) R.l ∧ Own 116 6 smC w.heap.size w' (.slice A' n' c') RS ∧ RS.map SmR.g = R.s ∧ Smts w.heap.size w' RS ∧ Held w w'
set_option maxHeartbeats 8000000 in
theorem read_any (s : ByteArray) (R : Rd) (h : read s.data.toList = some R) (w : World) : Calls Tryz.prog 53 #[.string s] w (ReadTo R w) := by
  unfold read at h
  split at h
  · cases h
  rename_i hs
  rw [len_b] at hs
  have hs2 : s.size ≤ 8192 := by omega
  have y0 : ¬ (8192 : Int) < s.size := by omega
  obtain ⟨Ls, hLs⟩ : ∃ Ls, lines s.data.toList = Ls := ⟨_, rfl⟩
  have hll := lines_len s.data.toList
  have hel : ∀ x ∈ Ls, x.length ≤ 8192 := fun x hx => by
    rw [← hLs, lines_go] at hx
    have := go_len _ _ x hx
    rw [len_b] at this
    simp at this
    omega
  have HLI := Lib.hid fun w => lines_any s hs2 w
  rw [hLs] at h hll HLI
  rw [len_b] at hll
  have HLN := Lib.hid (show Ls.length ≤ 8192 by omega)
  have HEL := Lib.hid hel
  have H0 := Lib.hid h
  have M0 := Lib.hid ((((Mem.start w).alloc #[.int .i64 0, .int .i64 0] 94).nilRow (e := 146) (s := 2) (f := symC)).nilRow (e := 116) (s := 6) (f := smC))
  clear h hs hs2 hLs hll hel
  go_enter Tryz.func53, Tryz.ntmps53
  go_wp2_with fail
  refine (HLI.out _).mono ?_
  rintro e w2 ⟨A0, n0, cap0, rfl, ho, h2⟩
  have M2 := Lib.hid (M0.out.own h2 ho)
  have hcap0 := Own.cap ho
  obtain ⟨hsl, hn, _⟩ := Own.reads strC_len ho
  have hn8 : n0 ≤ 8192 := by have := HLN.out; omega
  have HNL : Is Ls.length n0 := ⟨hn.symm⟩
  clear ho h2 hsl hn HLI M0
  go_wp2
  go_loopw [5, 6, 7, 9] (fun v5 v6 v7 v9 wr => ∃ (q k : Nat) (YL : List Sym) (RS : List SmR), v9 = .int .i64 (q : Int) ∧ v7 = .int .i64 (k : Int) ∧ q ≤ n0 ∧ YL.length ≤ q ∧ RS.length ≤ q ∧ k ≤ 1024 ∧ readL (Ls.drop q) q ⟨YL, RS.map SmR.g, k⟩ = some R ∧ Smts w.heap.size wr RS ∧ Mem w wr [.box w.heap.size #[.int .i64 0, .int .i64 0] 94, .row 146 2 symC w.heap.size v5 YL, .row 116 6 smC w.heap.size v6 RS, .row 9 1 strC w.heap.size (.slice A0 n0 cap0) Ls]) (fun _ _ _ i _ => n0 - (RowKit.intOf i).toNat)
  case atStart => exact ⟨0, 0, [], [], rfl, rfl, Nat.zero_le _, Nat.le_refl _, Nat.le_refl _, Nat.zero_le _, H0.out, Smts.nil _ _, M2.out⟩
  case round =>
    clear M2 H0
    obtain ⟨q, k, YL, RS, rfl, rfl, hq, hl1, hl2, hk, hrd, hss, hM⟩ := hrel
    obtain ⟨A5, cap5, rfl, hcap5, _⟩ := (hM.row 1 rfl).shape
    obtain ⟨A6, cap6, rfl, hcap6, _⟩ := (hM.row 2 rfl).shape
    obtain ⟨n1, hn1⟩ : ∃ n1, YL.length = n1 := ⟨_, rfl⟩
    obtain ⟨n2, hn2⟩ : ∃ n2, RS.length = n2 := ⟨_, rfl⟩
    have HN1 : Is YL.length n1 := ⟨hn1⟩
    have HN2 : Is RS.length n2 := ⟨hn2⟩
    rw [hn1] at hM hl1 hcap5 ⊢
    rw [hn2] at hM hl2 hcap6 ⊢
    have M := Lib.hid hM
    have HSS := Lib.hid hss
    have HRD0 := Lib.hid hrd
    have hn10 : n1 ≤ 100000 := by omega
    clear hn1 hn2 hM hss hrd
    by_cases hlt : q < n0
    · have y1 : (q : Int) < n0 := by omega
      have y2 : (0 : Int) ≤ q := by omega
      obtain ⟨b, off, x, rfl, hb, hx, hc⟩ := Sl.at_ (Own.reads strC_len (M.out.row 3 rfl)).1 (Held.refl wr) hlt
      have hd : Ls.drop q = x :: Ls.drop (q + 1) := by
        obtain ⟨hh, he⟩ := List.getElem?_eq_some_iff.1 hx
        rw [List.drop_eq_getElem_cons hh, he]
      have hxl := HEL.out x (List.mem_of_getElem? hx)
      have hrd := HRD0.out
      rw [hd] at hrd
      obtain ⟨lb, ⟨wl, o, al, _, _, sz⟩, hpar, hwne, hl0, ha0, hadr, hat, hrd⟩ := read_step hrd
      dsimp only at hwne hl0 ha0 hadr hat hrd
      subst hl0 ha0
      obtain ⟨sx, hsx⟩ : ∃ sx : ByteArray, (⟨x.toArray⟩ : ByteArray) = sx := ⟨_, rfl⟩
      have c0 := hc 0 _ rfl
      rw [Nat.add_zero, Nat.mul_one, hsx] at c0
      have HPAR := Lib.hid fun w => parsed_any sx lb ⟨wl, o, al, 0, 0, sz⟩ (by rw [← hsx]; show x.toArray.size ≤ 8192; simpa using hxl) (by rw [← hsx, ba_l]; exact hpar) w
      unfold ParTo at HPAR
      dsimp only at HPAR
      obtain ⟨sw, hsw⟩ : ∃ sw : ByteArray, (⟨wl.toArray⟩ : ByteArray) = sw := ⟨_, rfl⟩
      obtain ⟨sl, hsl'⟩ : ∃ sl : ByteArray, (⟨lb.toArray⟩ : ByteArray) = sl := ⟨_, rfl⟩
      rw [hsw, hsl'] at HPAR
      have qw := ba_eq sw []
      rw [← hsw, ba_l, decide_eq_false hwne, hsw] at qw
      have hwl : wl = sw.data.toList := by rw [← hsw, ba_l]
      have hlbl : lb = sl.data.toList := by rw [← hsl', ba_l]
      clear hsw hsl'
      subst hwl hlbl
      have ql := ba_eq sl []
      obtain ⟨q1, hq1⟩ : ∃ q1, q + 1 = q1 := ⟨_, rfl⟩
      obtain ⟨k2, hk2⟩ : ∃ k2, k + sz = k2 := ⟨_, rfl⟩
      rw [hk2] at hat
      have yq1 : (q : Int) + 1 = (q1 : Int) := by omega
      have yk2 : (k : Int) + (sz : Int) = (k2 : Int) := by omega
      have yk : (k : Int) ≤ 1024 := by omega
      have yk3 : (k2 : Int) ≤ 1024 := by omega
      have yk4 : ¬ (1024 : Int) < k2 := by omega
      have HK2 := Lib.hid hat
      have hb1 : (n1 + 1) * 24 ≤ 140737488355328 := by omega
      have hb2 : (n2 + 1) * 72 ≤ 140737488355328 := by omega
      by_cases hlb : sl.data.toList = []
      · rw [if_pos hlb, hq1, hk2] at hrd
        rw [decide_eq_true hlb] at ql
        have HRD := Lib.hid (fun (A : Option Addr) (n c : Nat) => show readL (Ls.drop q1) q1 ⟨YL, (RS ++ [(⟨sw.data.toList, o, A, n, c, al, q1, k, sz⟩ : SmR)]).map SmR.g, k2⟩ = some R by rw [List.map_append]; exact hrd)
        clear hlb hadr hrd hpar hwne hsx hxl hd hx hc HRD0 hq1 hk2 hat
        go_wp2_with fail
        refine (HPAR.out _).mono ?_
        rintro e w3 ⟨A, n, c, rfl, ho3, h3⟩
        have M3 := Lib.hid (M.out.keep h3)
        have HS3 := Lib.hid (HSS.out.held h3)
        have hsl3 := (Own.reads argC_len ho3).1
        have hcp3 := (Own.reads argC_len ho3).2.2
        have HA3 : Hid (Smt w.heap.size w3 ⟨sw.data.toList, o, A, n, c, al, q1, k, sz⟩) := ⟨hsl3, Ty.own (Own.mono ho3 M.out.le), hcp3⟩
        clear ho3 h3 hsl3 hcp3 HPAR
        have M4 := Lib.hid (M3.out.alloc #[.string sw, .int .i64 (o : Int), .slice A n c, .int .i64 (q1 : Int), .int .i64 (k : Int), .int .i64 (sz : Int)] 116)
        have HS4 := Lib.hid (HS3.out.held ((Held.refl _).alloc (.cells #[.string sw, .int .i64 (o : Int), .slice A n c, .int .i64 (q1 : Int), .int .i64 (k : Int), .int .i64 (sz : Int)] 116)))
        have HA4 := Lib.hid (HA3.out.held ((Held.refl _).alloc (.cells #[.string sw, .int .i64 (o : Int), .slice A n c, .int .i64 (q1 : Int), .int .i64 (k : Int), .int .i64 (sz : Int)] 116)))
        clear HS3 HA3 M3 HSS M
        have HSB := HS4
        have HAB := HA4
        have MB := M4
        clear HS4 HA4 M4
        obtain ⟨⟨s0, s1, s2, s3, s4, s5⟩, ⟨r0, r1, r2, r3, r4, r5⟩⟩ := box6 MB.out 4 rfl
        have MC := Lib.hid (MB.out.skip (.cells #[.string sw, .int .i64 (o : Int), .slice A n c, .int .i64 (q1 : Int), .int .i64 (k : Int), .int .i64 (sz : Int)] 116))
        have HSC := Lib.hid (HSB.out.held ((Held.refl _).alloc (.cells #[.string sw, .int .i64 (o : Int), .slice A n c, .int .i64 (q1 : Int), .int .i64 (k : Int), .int .i64 (sz : Int)] 116)))
        have HAC := Lib.hid (HAB.out.held ((Held.refl _).alloc (.cells #[.string sw, .int .i64 (o : Int), .slice A n c, .int .i64 (q1 : Int), .int .i64 (k : Int), .int .i64 (sz : Int)] 116)))
        clear HSB HAB MB
        go_wp2_with (at_builtin; refine Mem.wp_appC MC.out 2 rfl rfl _ _ _ rfl _ 72 Tryz.underlying111 info_stm rfl (by decide) smC_len smC_one ⟨sw.data.toList, o, A, n, c, al, q1, k, sz⟩ ⟨w3.heap.size + 1, 0, none⟩ 1 rfl rfl (cells_new _ (by simp) _ _) n2 HN2.out hb2 (by decide) ?_; intro g4 cp4 w5 M5' hC; have M5 := Lib.hid M5'; have HS5 := Lib.hid ((HSC.out.snoc HAC.out).chg (hC _ _ ne_st (Nat.le_refl _))); clear M5' hC; obtain ⟨⟨a0, a1, a2, a3, a4x, a5⟩, _⟩ := box6 M5.out 4 rfl)
        go_roundw
        case rel => exact ⟨q1, k2, YL, RS ++ [(⟨sw.data.toList, o, A, n, c, al, q1, k, sz⟩ : SmR)], rfl, rfl, by omega, (by rw [HN1.out]; omega), by rw [List.length_append, HN2.out]; simp only [List.length_singleton]; omega, HK2.out, HRD.out _ _ _, HS5.out, M5.out.take 4⟩
        case measure => (simp [RowKit.intOf]) <;> omega
      · rw [if_neg hlb, hq1, hk2] at hrd
        rw [decide_eq_false hlb] at ql
        obtain ⟨a4, ha4⟩ : ∃ a4, 4 * k = a4 := ⟨_, rfl⟩
        rw [ha4] at hrd
        have ya4 : 4 * (k : Int) = (a4 : Int) := by omega
        have ya5 : (a4 : Int) ≤ 4096 := by omega
        have HADR := Lib.hid (hadr hlb)
        have HRD := Lib.hid (fun (A : Option Addr) (n c : Nat) => show readL (Ls.drop q1) q1 ⟨YL ++ [⟨sl.data.toList, a4⟩], (RS ++ [(⟨sw.data.toList, o, A, n, c, al, q1, k, sz⟩ : SmR)]).map SmR.g, k2⟩ = some R by rw [List.map_append]; exact hrd)
        clear hlb hadr hrd hpar hwne hsx hxl hd hx hc HRD0 hq1 hk2 hat ha4
        go_wp2_with fail
        refine (HPAR.out _).mono ?_
        rintro e w3 ⟨A, n, c, rfl, ho3, h3⟩
        have M3 := Lib.hid (M.out.keep h3)
        have HS3 := Lib.hid (HSS.out.held h3)
        have hsl3 := (Own.reads argC_len ho3).1
        have hcp3 := (Own.reads argC_len ho3).2.2
        have HA3 : Hid (Smt w.heap.size w3 ⟨sw.data.toList, o, A, n, c, al, q1, k, sz⟩) := ⟨hsl3, Ty.own (Own.mono ho3 M.out.le), hcp3⟩
        clear ho3 h3 hsl3 hcp3 HPAR
        have M4 := Lib.hid (M3.out.alloc #[.string sw, .int .i64 (o : Int), .slice A n c, .int .i64 0, .int .i64 0, .int .i64 (sz : Int)] 116)
        have HS4 := Lib.hid (HS3.out.held ((Held.refl _).alloc (.cells #[.string sw, .int .i64 (o : Int), .slice A n c, .int .i64 0, .int .i64 0, .int .i64 (sz : Int)] 116)))
        have HA4 := Lib.hid (HA3.out.held ((Held.refl _).alloc (.cells #[.string sw, .int .i64 (o : Int), .slice A n c, .int .i64 0, .int .i64 0, .int .i64 (sz : Int)] 116)))
        clear HS3 HA3 M3 HSS M
        have hsy := (Own.reads symC_len (M4.out.row 1 rfl)).1
        have hcy := (Own.reads symC_len (M4.out.row 1 rfl)).2.2
        have HAD := Lib.hid (address_any A5 n1 cap5 YL sl _ hsy hn10 hcy)
        rw [HADR.out] at HAD
        unfold AddrTo at HAD
        dsimp only [Option.getD_none, Option.isSome_none] at HAD
        clear hsy hcy HADR
        go_wp2_with fail
        refine HAD.out.mono ?_
        rintro e w4 ⟨rfl, rfl⟩
        clear HAD
        have MC1 := Lib.hid (M4.out.skip (.cells #[.string sl, .int .u32 (a4 : Int)] 146))
        have HSC1 := Lib.hid (HS4.out.held ((Held.refl _).alloc (.cells #[.string sl, .int .u32 (a4 : Int)] 146)))
        have HAC1 := Lib.hid (HA4.out.held ((Held.refl _).alloc (.cells #[.string sl, .int .u32 (a4 : Int)] 146)))
        clear M4 HS4 HA4
        go_wp2_with (at_builtin; first
          | (refine Mem.wp_appC MC.out 2 rfl rfl _ _ _ rfl _ 72 Tryz.underlying111 info_stm rfl (by decide) smC_len smC_one ⟨sw.data.toList, o, A, n, c, al, q1, k, sz⟩ ⟨w5.heap.size, 0, none⟩ 1 rfl rfl (cells_new _ (by simp) _ _) n2 HN2.out hb2 (by decide) ?_; intro g4 cp4 w6 M5' hC; have M5 := Lib.hid M5'; have HS5 := Lib.hid ((HSC.out.snoc HAC.out).chg (hC _ _ ne_st (Nat.le_refl _))); clear M5' hC; obtain ⟨⟨a0, a1, a2, a3, a4x, a5⟩, _⟩ := box6 M5.out 4 rfl)
          | (refine Mem.wp_appC MC1.out 1 rfl rfl _ _ _ rfl _ 24 Tryz.underlying110 info_sym rfl (by decide) symC_len symC_one ⟨sl.data.toList, a4⟩ ⟨w3.heap.size + 1, 0, none⟩ 1 rfl rfl (cells_new _ (by simp) _ _) n1 HN1.out hb1 (by decide) ?_; intro g4 cp4 w5 M5' hC; have MA := Lib.hid M5'; have HSA := Lib.hid (HSC1.out.chg (hC _ _ ne_sy (Nat.le_refl _))); have HAA := Lib.hid (HAC1.out.chg (hC _ _ ne_sy (Nat.le_refl _))); clear M5' hC; clear MC1 HSC1 HAC1; obtain ⟨⟨x0, x1, x2, x3, x4, x5⟩, ⟨v0, v1, v2, v3, v4, v5⟩⟩ := box6 MA.out 4 rfl; have MB := Lib.hid ((MA.out.put 4 rfl 3 (.int .i64 (q1 : Int))).put 4 rfl 4 (.int .i64 (k : Int))); have C1 := MA.out.chgPut 4 rfl 3 (.int .i64 (q1 : Int)) ne_st (Nat.le_refl _); have C2 := (MA.out.put 4 rfl 3 (.int .i64 (q1 : Int))).chgPut 4 rfl 4 (.int .i64 (k : Int)) ne_st (Nat.le_refl _); have HSB := Lib.hid ((HSA.out.chg C1).chg C2); have HAB := Lib.hid ((HAA.out.chg C1).chg C2); clear C1 C2; obtain ⟨⟨s0, s1, s2, s3, s4, s5⟩, ⟨r0, r1, r2, r3, r4, r5⟩⟩ := box6 MB.out 4 rfl; have MC := Lib.hid (MB.out.skip (.cells #[.string sw, .int .i64 (o : Int), .slice A n c, .int .i64 (q1 : Int), .int .i64 (k : Int), .int .i64 (sz : Int)] 116)); have HSC := Lib.hid (HSB.out.held ((Held.refl _).alloc (.cells #[.string sw, .int .i64 (o : Int), .slice A n c, .int .i64 (q1 : Int), .int .i64 (k : Int), .int .i64 (sz : Int)] 116))); have HAC := Lib.hid (HAB.out.held ((Held.refl _).alloc (.cells #[.string sw, .int .i64 (o : Int), .slice A n c, .int .i64 (q1 : Int), .int .i64 (k : Int), .int .i64 (sz : Int)] 116))); clear HSB HAB MB))
        go_roundw
        case rel => exact ⟨q1, k2, (YL ++ [(⟨sl.data.toList, a4⟩ : Sym)]), RS ++ [(⟨sw.data.toList, o, A, n, c, al, q1, k, sz⟩ : SmR)], rfl, rfl, by omega, (by rw [List.length_append, HN1.out]; simp only [List.length_singleton]; omega), by rw [List.length_append, HN2.out]; simp only [List.length_singleton]; omega, HK2.out, HRD.out _ _ _, HS5.out, M5.out.take 4⟩
        case measure => (simp [RowKit.intOf]) <;> omega
    · obtain rfl : q = n0 := by omega
      have y1 : ¬ (q : Int) < q := by omega
      obtain ⟨b0, b1⟩ := M.out.box2 0 rfl
      have hR : R = ⟨YL, RS.map SmR.g, k⟩ := by
        have hl := HNL.out
        have := HRD0.out
        rw [List.drop_of_length_le (by omega), readL] at this
        injection this with this
        exact this.symm
      subst hR
      clear HRD0 HNL
      go_wp2
      have M5 := Lib.hid ((M.out.put 0 rfl 0 (.int .i64 0)).put 0 rfl 1 (.int .i64 0))
      have C1 := M.out.chgPut 0 rfl 0 (.int .i64 0) ne_er (Nat.le_refl _)
      have C2 := (M.out.put 0 rfl 0 (.int .i64 0)).chgPut 0 rfl 1 (.int .i64 0) ne_er (Nat.le_refl _)
      refine bodyPost_ret (res_ttc Tryz.results53 rfl (load_err (M5.out.blk 0 rfl))) rfl ?_
      exact ⟨_, _, _, _, _, _, RS, rfl, M5.out.row 1 rfl, M5.out.row 2 rfl, rfl, (HSS.out.chg C1).chg C2, M5.out.held⟩
end As
end Go.Proofs.YtdacgdokbfcgdaaGreat

namespace Go.Proofs.YtdacgdokbfcgdaaGreat
open Go.RowKit Go.BigFrame Go.Lib
namespace As
def WordTo (W : Nat) (w : World) (e : Ending) (w' : World) : Prop := e = .returned (.tuple #[.int .u32 (W : Int), .bool true]) ∧ Held w w'
theorem enc_some {x : Ins} {W : Nat} (h : enc x = some W) : validI x = true ∧ W = encN x.op x.a x.b x.c x.i := by
  unfold enc at h
  split at h
  · rename_i hv; injection h with h; exact ⟨hv, h.symm⟩
  · cases h
theorem valid_bds {op a b c : Nat} {i : Int} (h : validI ⟨op, a, b, c, i⟩ = true) : (bounds (form op)).1 ≤ i ∧ i ≤ (bounds (form op)).2 := by
  unfold validI at h
  simp only [Bool.and_eq_true, decide_eq_true_eq] at h
  exact ⟨h.1.1.1.1.2, h.1.1.1.2⟩
theorem encode_ok (op a b c : Nat) (i : Int) (W : Nat) (h : enc ⟨op, a, b, c, i⟩ = some W) (w : World) : Calls Tryz.prog 55 #[insV op a b c i] w (WordTo W w) := by
  obtain ⟨hv, hW⟩ := enc_some h
  obtain ⟨_, _, _, _, h5, h6⟩ := valid_parts hv
  refine (encode_ins op a b c i w ⟨by omega, by omega⟩).mono ?_
  rintro e w' ⟨v, he, _, hv2, hh⟩
  rw [hv] at he hv2
  rw [hv2 rfl] at he
  subst hW
  exact ⟨he, hh⟩
theorem args3 {w : World} {A : Option Addr} {n : Nat} {x y z : Arg} (h : Sl 3 argC w A n [x, y, z]) : n = 3 ∧ ∃ b off : Nat, A = some ⟨b, off, none⟩ ∧ b < w.heap.size ∧
    (w.cell? ⟨b, off, none⟩ = some (.int .i64 (x.r : Int)) ∧ w.cell? ⟨b, off + 3, none⟩ = some (.int .i64 (y.r : Int)) ∧ w.cell? ⟨b, off + 6, none⟩ = some (.int .i64 (z.r : Int))) ∧ w.cell? ⟨b, off + 4, none⟩ = some (.int .i64 (y.n : Int)) ∧ w.cell? ⟨b, off + 3 + 1, none⟩ = some (.int .i64 (y.n : Int)) := by
  have hn : n = 3 := h.1.symm
  subst hn
  rcases h.2 with h0 | ⟨b, off, rfl, hb, hc⟩
  · cases h0
  have c0 := hc 0 (by simp) 0 _ rfl
  have c1 := hc 1 (by simp) 0 _ rfl
  have c2 := hc 2 (by simp) 0 _ rfl
  have c3 := hc 1 (by simp) 1 _ rfl
  exact ⟨rfl, b, off, rfl, hb, ⟨c0, c1, c2⟩, c3, c3⟩
theorem args2 {w : World} {A : Option Addr} {n : Nat} {x y : Arg} (h : Sl 3 argC w A n [x, y]) : n = 2 ∧ ∃ b off : Nat, A = some ⟨b, off, none⟩ ∧ b < w.heap.size ∧ w.cell? ⟨b, off, none⟩ = some (.int .i64 (x.r : Int)) := by
  have hn : n = 2 := h.1.symm
  subst hn
  rcases h.2 with h0 | ⟨b, off, rfl, hb, hc⟩
  · cases h0
  have c0 := hc 0 (by simp) 0 _ rfl
  exact ⟨rfl, b, off, rfl, hb, c0⟩
/-- The ways of a statement's instruction. -/
theorem ins_cases {s : Stm} {v : Int} {x : Ins} (h : insOf s v = some x) :
    (form s.op = 2 ∧ ∃ a b c, s.l = [a, b, c] ∧ x = ⟨s.op, a.r, b.r, c.r, 0⟩) ∨
    (form s.op = 3 ∧ 32 ≤ s.op ∧ s.op ≤ 36 ∧ ∃ a m b, s.l = [a, m, b] ∧ x = ⟨s.op, a.r, b.r, 0, (m.n : Int)⟩) ∨
    (form s.op ≠ 2 ∧ ¬ (32 ≤ s.op ∧ s.op ≤ 36) ∧ 6 ≤ form s.op ∧ ∃ a b, s.l = [a, b] ∧ x = ⟨s.op, a.r, 0, 0, v⟩) ∨
    (form s.op ≠ 2 ∧ ¬ (32 ≤ s.op ∧ s.op ≤ 36) ∧ form s.op < 6 ∧ form s.op ≠ 1 ∧ ∃ a b c, s.l = [a, b, c] ∧ x = ⟨s.op, a.r, b.r, 0, v⟩) ∨
    (form s.op = 1 ∧ ¬ (32 ≤ s.op ∧ s.op ≤ 36) ∧ s.l = [] ∧ x = ⟨s.op, 0, 0, 0, 0⟩) := by
  unfold insOf at h
  split at h
  · rename_i h2
    split at h
    · rename_i a b c hl; injection h with h; exact .inl ⟨h2, a, b, c, hl, h.symm⟩
    · cases h
  · rename_i h2
    split at h
    · rename_i hr
      have hf : form s.op = 3 := by
        unfold form
        rw [if_neg (by omega), if_pos (by omega)]
      split at h
      · rename_i a m b hl; injection h with h; exact .inr (.inl ⟨hf, hr.1, hr.2, a, m, b, hl, h.symm⟩)
      · cases h
    · rename_i hr
      split at h
      · rename_i h6
        split at h
        · rename_i a b hl; injection h with h; exact .inr (.inr (.inl ⟨h2, hr, h6, a, b, hl, h.symm⟩))
        · cases h
      · rename_i h6
        split at h
        · rename_i h1
          split at h
          · rename_i a b c hl; injection h with h; exact .inr (.inr (.inr (.inl ⟨h2, hr, by omega, h1, a, b, c, hl, h.symm⟩)))
          · cases h
        · rename_i h1
          split at h
          · rename_i hl; injection h with h; exact .inr (.inr (.inr (.inr ⟨by omega, hr, hl, h.symm⟩)))
          · cases h
set_option maxHeartbeats 4000000 in
theorem inst_a (sw : ByteArray) (op : Nat) (A : Option Addr) (n c : Nat) (line at_ sz : Nat) (v : Int) (x y z : Arg) (W : Nat) (w : World) (hsl : Sl 3 argC w A n [x, y, z]) (hcap : n ≤ c) (hf2 : form op = 2) (h : enc ⟨op, x.r, y.r, z.r, 0⟩ = some W) :
    Calls Tryz.prog 56 #[.agg #[.string sw, .int .i64 (op : Int), .slice A n c, .int .i64 (line : Int), .int .i64 (at_ : Int), .int .i64 (sz : Int)], .int .i64 v] w (WordTo W w) := by
  obtain ⟨hv, hW⟩ := enc_some h
  have hp := valid_parts hv
  have hbd := valid_bds hv
  have HEN := Lib.hid fun w => encode_ok op x.r y.r z.r 0 W h w
  have HF := Lib.hid fun w => form_all op w
  obtain ⟨f, hf⟩ : ∃ f, form op = f := ⟨_, rfl⟩
  have hf9 : f ≤ 9 := by rw [← hf]; exact form_le op
  have HBD := Lib.hid fun w => bounds_any f hf9 w
  obtain ⟨⟨lo, hi⟩, hb⟩ : ∃ p, bounds f = p := ⟨_, rfl⟩
  rw [hf] at HF hbd
  rw [hb] at HBD hbd
  unfold BdTo at HBD
  unfold WordTo at HEN ⊢
  dsimp only at HBD hbd
  rw [hf] at hf2
  obtain ⟨rfl, b, off, rfl, hlt, ⟨c0, c1, c2⟩, _⟩ := args3 hsl
  have q2 : ((f : Int) == 2) = true := by rw [beq_iff_eq]; omega
  have q4 : (3 : Int) ≤ c := by omega
  obtain ⟨lo1, hi1⟩ := hbd
  have q1 : ¬ (0 : Int) < lo := by omega
  have q3 : ¬ hi < (0 : Int) := by omega
  have hb1 : ¬ b = w.heap.size := by omega
  have hb2 : ¬ b = w.heap.size + 1 := by omega
  clear hv hW hp hf hf9 hb h hsl hf2
  go_enter Tryz.func56, Tryz.ntmps56
  go_wp2_with fail
  refine Calls.mono (by with_reducible exact HF.out _) ?_
  rintro e w3 ⟨rfl, rfl⟩
  go_wp2_with fail
  refine Calls.mono (by with_reducible exact HBD.out _) ?_
  rintro e w3 ⟨rfl, rfl⟩
  go_wp2
  go_region
  go_wp2_with fail
  refine (HEN.out _).mono ?_
  rintro e w4 ⟨rfl, h4⟩
  go_wp2
  go_ret2
  exact ⟨rfl, (((Held.refl w).alloc _).alloc _).drew.step h4⟩
set_option maxHeartbeats 4000000 in
theorem inst_b (sw : ByteArray) (op : Nat) (A : Option Addr) (n c : Nat) (line at_ sz : Nat) (v : Int) (x y z : Arg) (W : Nat) (w : World) (hsl : Sl 3 argC w A n [x, y, z]) (hcap : n ≤ c) (hf2 : form op = 3) (hop : 32 ≤ op ∧ op ≤ 36) (h : enc ⟨op, x.r, z.r, 0, (y.n : Int)⟩ = some W) :
    Calls Tryz.prog 56 #[.agg #[.string sw, .int .i64 (op : Int), .slice A n c, .int .i64 (line : Int), .int .i64 (at_ : Int), .int .i64 (sz : Int)], .int .i64 v] w (WordTo W w) := by
  obtain ⟨hv, hW⟩ := enc_some h
  have hp := valid_parts hv
  have hbd := valid_bds hv
  have HEN := Lib.hid fun w => encode_ok op x.r z.r 0 (y.n : Int) W h w
  have HF := Lib.hid fun w => form_all op w
  obtain ⟨f, hf⟩ : ∃ f, form op = f := ⟨_, rfl⟩
  have hf9 : f ≤ 9 := by rw [← hf]; exact form_le op
  have HBD := Lib.hid fun w => bounds_any f hf9 w
  obtain ⟨⟨lo, hi⟩, hb⟩ : ∃ p, bounds f = p := ⟨_, rfl⟩
  rw [hf] at HF hbd
  rw [hb] at HBD hbd
  unfold BdTo at HBD
  unfold WordTo at HEN ⊢
  dsimp only at HBD hbd
  rw [hf] at hf2
  obtain ⟨h32, h36⟩ := hop
  obtain ⟨rfl, b, off, rfl, hlt, ⟨c0, c1, c2⟩, c3, c4⟩ := args3 hsl
  obtain ⟨_, _, _, _, p5, p6⟩ := hp
  have q2 : ((f : Int) == 2) = false := by rw [beq_eq_false_iff_ne]; omega
  have q5 : ((f : Int) == 1) = false := by rw [beq_eq_false_iff_ne]; omega
  have q4 : (3 : Int) ≤ c := by omega
  have q6 : (32 : Int) ≤ op := by omega
  have q7 : (op : Int) ≤ 36 := by omega
  obtain ⟨lo1, hi1⟩ := hbd
  have q1 : ¬ (y.n : Int) < lo := by omega
  have q3 : ¬ hi < (y.n : Int) := by omega
  have hb1 : ¬ b = w.heap.size := by omega
  have hb2 : ¬ b = w.heap.size + 1 := by omega
  clear hv hW hf hf9 hb h hsl hf2 h32 h36
  go_enter Tryz.func56, Tryz.ntmps56
  go_wp2_with fail
  refine Calls.mono (by with_reducible exact HF.out _) ?_
  rintro e w3 ⟨rfl, rfl⟩
  go_wp2_with fail
  refine Calls.mono (by with_reducible exact HBD.out _) ?_
  rintro e w3 ⟨rfl, rfl⟩
  go_wp2
  go_region
  go_wp2_with fail
  refine (HEN.out _).mono ?_
  rintro e w4 ⟨rfl, h4⟩
  go_wp2
  go_ret2
  exact ⟨rfl, (((Held.refl w).alloc _).alloc _).drew.step h4⟩
set_option maxHeartbeats 4000000 in
theorem inst_c (sw : ByteArray) (op : Nat) (A : Option Addr) (n c : Nat) (line at_ sz : Nat) (v : Int) (x y : Arg) (W : Nat) (w : World) (hsl : Sl 3 argC w A n [x, y]) (hcap : n ≤ c) (hc2 : form op ≠ 2) (hop : ¬ (32 ≤ op ∧ op ≤ 36)) (hc6 : 6 ≤ form op) (h : enc ⟨op, x.r, 0, 0, v⟩ = some W) :
    Calls Tryz.prog 56 #[.agg #[.string sw, .int .i64 (op : Int), .slice A n c, .int .i64 (line : Int), .int .i64 (at_ : Int), .int .i64 (sz : Int)], .int .i64 v] w (WordTo W w) := by
  obtain ⟨hv, hW⟩ := enc_some h
  have hp := valid_parts hv
  have hbd := valid_bds hv
  have HEN := Lib.hid fun w => encode_ok op x.r 0 0 v W h w
  have HF := Lib.hid fun w => form_all op w
  obtain ⟨f, hf⟩ : ∃ f, form op = f := ⟨_, rfl⟩
  have hf9 : f ≤ 9 := by rw [← hf]; exact form_le op
  have HBD := Lib.hid fun w => bounds_any f hf9 w
  obtain ⟨⟨lo, hi⟩, hb⟩ : ∃ p, bounds f = p := ⟨_, rfl⟩
  rw [hf] at HF hbd
  rw [hb] at HBD hbd
  unfold BdTo at HBD
  unfold WordTo at HEN ⊢
  dsimp only at HBD hbd
  obtain ⟨rfl, b, off, rfl, hlt, c0⟩ := args2 hsl
  rw [hf] at hc2 hc6
  obtain ⟨_, _, _, _, p5, p6⟩ := hp
  have q2 : ((f : Int) == 2) = false := by rw [beq_eq_false_iff_ne]; omega
  have q5 : ((f : Int) == 1) = false := by rw [beq_eq_false_iff_ne]; omega
  have q4 : (2 : Int) ≤ c := by omega
  have q6 : (6 : Int) ≤ f := by omega
  obtain ⟨lo1, hi1⟩ := hbd
  have q1 : ¬ v < lo := by omega
  have q3 : ¬ hi < v := by omega
  have hb1 : ¬ b = w.heap.size := by omega
  have hb2 : ¬ b = w.heap.size + 1 := by omega
  rcases (by omega : op < 32 ∨ (32 ≤ op ∧ 36 < op)) with z1 | ⟨z1, z2⟩
  · have y1 : ¬ (32 : Int) ≤ op := by omega
    clear hv hW hf hf9 hb h hsl hc2 hc6 hop
    go_enter Tryz.func56, Tryz.ntmps56
    go_wp2_with fail
    refine Calls.mono (by with_reducible exact HF.out _) ?_
    rintro e w3 ⟨rfl, rfl⟩
    go_wp2_with fail
    refine Calls.mono (by with_reducible exact HBD.out _) ?_
    rintro e w3 ⟨rfl, rfl⟩
    go_wp2_with fail
    refine (HEN.out _).mono ?_
    rintro e w4 ⟨rfl, h4⟩
    go_wp2
    go_ret2
    exact ⟨rfl, (((Held.refl w).alloc _).alloc _).step h4⟩
  · have y1 : (32 : Int) ≤ op := by omega
    have y2 : ¬ (op : Int) ≤ 36 := by omega
    clear hv hW hf hf9 hb h hsl hc2 hc6 hop
    go_enter Tryz.func56, Tryz.ntmps56
    go_wp2_with fail
    refine Calls.mono (by with_reducible exact HF.out _) ?_
    rintro e w3 ⟨rfl, rfl⟩
    go_wp2_with fail
    refine Calls.mono (by with_reducible exact HBD.out _) ?_
    rintro e w3 ⟨rfl, rfl⟩
    go_wp2_with fail
    refine (HEN.out _).mono ?_
    rintro e w4 ⟨rfl, h4⟩
    go_wp2
    go_ret2
    exact ⟨rfl, (((Held.refl w).alloc _).alloc _).step h4⟩
set_option maxHeartbeats 4000000 in
theorem inst_d (sw : ByteArray) (op : Nat) (A : Option Addr) (n c : Nat) (line at_ sz : Nat) (v : Int) (x y z : Arg) (W : Nat) (w : World) (hsl : Sl 3 argC w A n [x, y, z]) (hcap : n ≤ c) (hc2 : form op ≠ 2) (hop : ¬ (32 ≤ op ∧ op ≤ 36)) (hc6 : form op < 6) (hc1 : form op ≠ 1) (h : enc ⟨op, x.r, y.r, 0, v⟩ = some W) :
    Calls Tryz.prog 56 #[.agg #[.string sw, .int .i64 (op : Int), .slice A n c, .int .i64 (line : Int), .int .i64 (at_ : Int), .int .i64 (sz : Int)], .int .i64 v] w (WordTo W w) := by
  obtain ⟨hv, hW⟩ := enc_some h
  have hp := valid_parts hv
  have hbd := valid_bds hv
  have HEN := Lib.hid fun w => encode_ok op x.r y.r 0 v W h w
  have HF := Lib.hid fun w => form_all op w
  obtain ⟨f, hf⟩ : ∃ f, form op = f := ⟨_, rfl⟩
  have hf9 : f ≤ 9 := by rw [← hf]; exact form_le op
  have HBD := Lib.hid fun w => bounds_any f hf9 w
  obtain ⟨⟨lo, hi⟩, hb⟩ : ∃ p, bounds f = p := ⟨_, rfl⟩
  rw [hf] at HF hbd
  rw [hb] at HBD hbd
  unfold BdTo at HBD
  unfold WordTo at HEN ⊢
  dsimp only at HBD hbd
  obtain ⟨rfl, b, off, rfl, hlt, ⟨c0, c1, c2⟩, _⟩ := args3 hsl
  rw [hf] at hc2 hc6 hc1
  obtain ⟨_, _, _, _, p5, p6⟩ := hp
  have q2 : ((f : Int) == 2) = false := by rw [beq_eq_false_iff_ne]; omega
  have q5 : ((f : Int) == 1) = false := by rw [beq_eq_false_iff_ne]; omega
  have q5' : ((f : Int) != 1) = true := by rw [bne_iff_ne]; omega
  have q4 : (3 : Int) ≤ c := by omega
  have q6 : ¬ (6 : Int) ≤ f := by omega
  obtain ⟨lo1, hi1⟩ := hbd
  have q1 : ¬ v < lo := by omega
  have q3 : ¬ hi < v := by omega
  have hb1 : ¬ b = w.heap.size := by omega
  have hb2 : ¬ b = w.heap.size + 1 := by omega
  rcases (by omega : op < 32 ∨ (32 ≤ op ∧ 36 < op)) with z1 | ⟨z1, z2⟩
  · have y1 : ¬ (32 : Int) ≤ op := by omega
    clear hv hW hf hf9 hb h hsl hc2 hc6 hc1 hop
    go_enter Tryz.func56, Tryz.ntmps56
    go_wp2_with fail
    refine Calls.mono (by with_reducible exact HF.out _) ?_
    rintro e w3 ⟨rfl, rfl⟩
    go_wp2_with fail
    refine Calls.mono (by with_reducible exact HBD.out _) ?_
    rintro e w3 ⟨rfl, rfl⟩
    go_wp2
    go_region
    go_wp2_with fail
    refine (HEN.out _).mono ?_
    rintro e w4 ⟨rfl, h4⟩
    go_wp2
    go_ret2
    exact ⟨rfl, (((Held.refl w).alloc _).alloc _).drew.step h4⟩
  · have y1 : (32 : Int) ≤ op := by omega
    have y2 : ¬ (op : Int) ≤ 36 := by omega
    clear hv hW hf hf9 hb h hsl hc2 hc6 hc1 hop
    go_enter Tryz.func56, Tryz.ntmps56
    go_wp2_with fail
    refine Calls.mono (by with_reducible exact HF.out _) ?_
    rintro e w3 ⟨rfl, rfl⟩
    go_wp2_with fail
    refine Calls.mono (by with_reducible exact HBD.out _) ?_
    rintro e w3 ⟨rfl, rfl⟩
    go_wp2
    go_region
    go_wp2_with fail
    refine (HEN.out _).mono ?_
    rintro e w4 ⟨rfl, h4⟩
    go_wp2
    go_ret2
    exact ⟨rfl, (((Held.refl w).alloc _).alloc _).drew.step h4⟩
set_option maxHeartbeats 4000000 in
theorem inst_e (sw : ByteArray) (op : Nat) (A : Option Addr) (n c : Nat) (line at_ sz : Nat) (v : Int)  (W : Nat) (w : World) (hsl : Sl 3 argC w A n []) (hcap : n ≤ c) (hf2 : form op = 1) (hop : ¬ (32 ≤ op ∧ op ≤ 36)) (h : enc ⟨op, 0, 0, 0, 0⟩ = some W) :
    Calls Tryz.prog 56 #[.agg #[.string sw, .int .i64 (op : Int), .slice A n c, .int .i64 (line : Int), .int .i64 (at_ : Int), .int .i64 (sz : Int)], .int .i64 v] w (WordTo W w) := by
  obtain ⟨hv, hW⟩ := enc_some h
  have hp := valid_parts hv
  have hbd := valid_bds hv
  have HEN := Lib.hid fun w => encode_ok op 0 0 0 0 W h w
  have HF := Lib.hid fun w => form_all op w
  obtain ⟨f, hf⟩ : ∃ f, form op = f := ⟨_, rfl⟩
  have hf9 : f ≤ 9 := by rw [← hf]; exact form_le op
  have HBD := Lib.hid fun w => bounds_any f hf9 w
  obtain ⟨⟨lo, hi⟩, hb⟩ : ∃ p, bounds f = p := ⟨_, rfl⟩
  rw [hf] at HF hbd
  rw [hb] at HBD hbd
  unfold BdTo at HBD
  unfold WordTo at HEN ⊢
  dsimp only at HBD hbd
  rw [hf] at hf2
  obtain rfl : n = 0 := hsl.1.symm
  have q2 : ((f : Int) == 2) = false := by rw [beq_eq_false_iff_ne]; omega
  have q5 : ((f : Int) == 1) = true := by rw [beq_iff_eq]; omega
  have q5' : ((f : Int) != 1) = false := by rw [bne_eq_false_iff_eq]; omega
  have q6 : ¬ (6 : Int) ≤ f := by omega
  obtain ⟨lo1, hi1⟩ := hbd
  have q1 : ¬ (0 : Int) < lo := by omega
  have q3 : ¬ hi < (0 : Int) := by omega
  rcases (by omega : op < 32 ∨ (32 ≤ op ∧ 36 < op)) with z1 | ⟨z1, z2⟩
  · have y1 : ¬ (32 : Int) ≤ op := by omega
    clear hv hW hp hf hf9 hb h hsl hf2 hop
    go_enter Tryz.func56, Tryz.ntmps56
    go_wp2_with fail
    refine Calls.mono (by with_reducible exact HF.out _) ?_
    rintro e w3 ⟨rfl, rfl⟩
    go_wp2_with fail
    refine Calls.mono (by with_reducible exact HBD.out _) ?_
    rintro e w3 ⟨rfl, rfl⟩
    go_wp2_with fail
    refine (HEN.out _).mono ?_
    rintro e w4 ⟨rfl, h4⟩
    go_wp2
    go_ret2
    exact ⟨rfl, (((Held.refl w).alloc _).alloc _).step h4⟩
  · have y1 : (32 : Int) ≤ op := by omega
    have y2 : ¬ (op : Int) ≤ 36 := by omega
    clear hv hW hp hf hf9 hb h hsl hf2 hop
    go_enter Tryz.func56, Tryz.ntmps56
    go_wp2_with fail
    refine Calls.mono (by with_reducible exact HF.out _) ?_
    rintro e w3 ⟨rfl, rfl⟩
    go_wp2_with fail
    refine Calls.mono (by with_reducible exact HBD.out _) ?_
    rintro e w3 ⟨rfl, rfl⟩
    go_wp2_with fail
    refine (HEN.out _).mono ?_
    rintro e w4 ⟨rfl, h4⟩
    go_wp2
    go_ret2
    exact ⟨rfl, (((Held.refl w).alloc _).alloc _).step h4⟩
theorem inst_any (sw : ByteArray) (op : Nat) (A : Option Addr) (n c : Nat) (l : List Arg) (line at_ sz : Nat) (v : Int) (W : Nat) (w : World) (hsl : Sl 3 argC w A n l) (hcap : n ≤ c) (h : inst ⟨sw.data.toList, op, l, line, at_, sz⟩ v = some W) :
    Calls Tryz.prog 56 #[.agg #[.string sw, .int .i64 (op : Int), .slice A n c, .int .i64 (line : Int), .int .i64 (at_ : Int), .int .i64 (sz : Int)], .int .i64 v] w (WordTo W w) := by
  unfold inst at h
  split at h
  · cases h
  rename_i x hx
  rcases ins_cases hx with ⟨h1, a, b, d, hl, rfl⟩ | ⟨h1, h2, h3, a, m, b, hl, rfl⟩ | ⟨h1, h2, h3, a, b, hl, rfl⟩ | ⟨h1, h2, h3, h4, a, b, d, hl, rfl⟩ | ⟨h1, h2, hl, rfl⟩
  · dsimp only at hl h1; subst hl; exact inst_a sw op A n c line at_ sz v a b d W w hsl hcap h1 h
  · dsimp only at hl h1 h2 h3; subst hl; exact inst_b sw op A n c line at_ sz v a m b W w hsl hcap h1 ⟨h2, h3⟩ h
  · dsimp only at hl h1 h2 h3; subst hl; exact inst_c sw op A n c line at_ sz v a b W w hsl hcap h1 h2 h3 h
  · dsimp only at hl h1 h2 h3 h4; subst hl; exact inst_d sw op A n c line at_ sz v a b d W w hsl hcap h1 h2 h3 h4 h
  · dsimp only at hl h1 h2; subst hl; exact inst_e sw op A n c line at_ sz v W w hsl hcap h1 h2 h
end As
end Go.Proofs.YtdacgdokbfcgdaaGreat

namespace Go.Proofs.YtdacgdokbfcgdaaGreat
open Go.RowKit Go.BigFrame Go.Sort Go.Lib
namespace As
theorem info_u32 : (Tryz.prog.info? 40).map (fun i => (i.zero, i.size, i.bytes)) = some (some (.int .u32 0), 1, 4) := by kernel_rfl
def wordC (n : Nat) : List Value := [.int .u32 (n : Int)]
theorem wordC_len (x : Nat) : (wordC x).length = 1 := rfl
theorem wordC_one (x : Nat) : ∀ u ∈ wordC x, u.oneCell' = true := by intro u hu; simp [wordC] at hu; subst hu; rfl
/-- What the first pass leaves is small. -/
theorem read_bds : ∀ (xs : List (List UInt8)) (i : Nat) (r R : Rd), readL xs i r = some R → (∀ s ∈ r.l, s.a ≤ 4096) → (∀ s ∈ r.s, s.at_ ≤ 1024) → r.at_ ≤ 1024 → (∀ s ∈ R.l, s.a ≤ 4096) ∧ (∀ s ∈ R.s, s.at_ ≤ 1024)
  | [], i, r, R, h, h1, h2, h3 => by
    rw [readL] at h
    injection h with h
    subst h
    exact ⟨h1, h2⟩
  | x :: xs, i, r, R, h, h1, h2, h3 => by
    obtain ⟨lb, st, hp, hw, _, _, _, hat, h⟩ := read_step h
    refine read_bds xs (i + 1) _ R h ?_ ?_ hat
    · dsimp only
      split
      · exact h1
      · intro s hs
        rcases List.mem_append.1 hs with hs | hs
        · exact h1 s hs
        · rw [List.mem_singleton] at hs; subst hs; dsimp only; omega
    · intro s hs
      rcases List.mem_append.1 hs with hs | hs
      · exact h2 s hs
      · rw [List.mem_singleton] at hs; subst hs; exact h3
theorem read_lens' : ∀ (xs : List (List UInt8)) (i : Nat) (r R : Rd), readL xs i r = some R → R.l.length ≤ r.l.length + xs.length ∧ R.s.length ≤ r.s.length + xs.length
  | [], i, r, R, h => by
    rw [readL] at h
    injection h with h
    subst h
    exact ⟨Nat.le_refl _, Nat.le_refl _⟩
  | x :: xs, i, r, R, h => by
    obtain ⟨lb, st, hp, hw, _, _, _, hat, h⟩ := read_step h
    obtain ⟨h1, h2⟩ := read_lens' xs (i + 1) _ R h
    dsimp only at h1 h2
    rw [List.length_append] at h2
    simp only [List.length_cons, List.length_nil] at h2 ⊢
    split at h1
    · omega
    · rw [List.length_append] at h1
      simp only [List.length_cons, List.length_nil] at h1
      omega
theorem read_lens {s : List UInt8} {R : Rd} (h : read s = some R) : R.l.length ≤ 8192 ∧ R.s.length ≤ 8192 := by
  unfold read at h
  split at h
  · cases h
  · have := read_lens' _ _ _ _ h
    have := lines_len s
    simp only [List.length_nil] at *
    omega
theorem addr_bd {y : List Sym} {x : List UInt8} {d : Nat} (h : address y x = some d) (hy : ∀ s ∈ y, s.a ≤ 4096) : d ≤ 4096 := by
  unfold address at h
  obtain ⟨s, hs, rfl⟩ := Option.map_eq_some_iff.1 h
  exact hy s (List.mem_of_find?_eq_some hs)
theorem code_step {y : List Sym} {s : Stm} {l : List Stm} {W : List Nat} (h : codeL y (s :: l) = some W) : ∃ v c W', valOf y s = some v ∧ codeOf s v = some c ∧ W = c ++ W' ∧ codeL y l = some W' := by
  rw [codeL] at h
  cases hv : valOf y s with
  | none => rw [hv] at h; cases h
  | some v =>
    rw [hv] at h
    simp only at h
    cases hc : codeOf s v with
    | none => rw [hc] at h; cases h
    | some c =>
      rw [hc] at h
      obtain ⟨W', hW, rfl⟩ := Option.map_eq_some_iff.1 h
      exact ⟨v, c, W', rfl, hc, rfl, hW⟩
/-- The value of a statement. -/
theorem val_cases {y : List Sym} {s : Stm} {v : Int} (h : valOf y s = some v) : (s.l = [] ∧ v = 0) ∨ ∃ k a, s.l.length = k + 1 ∧ s.l[k]? = some a ∧
    ((a.l = [] ∧ v = (a.n : Int)) ∨ (a.l ≠ [] ∧ ∃ d, address y a.l = some d ∧ ((0 < s.op ∧ v = ((d / 4 : Nat) : Int) - (s.at_ : Int)) ∨ (s.op = 0 ∧ v = (d : Int))))) := by
  unfold valOf at h
  split at h
  · rename_i hl
    injection h with h
    exact .inl ⟨List.getLast?_eq_none_iff.1 hl, h.symm⟩
  · rename_i a hl
    have hne : s.l ≠ [] := by intro e; rw [e] at hl; cases hl
    rw [List.getLast?_eq_getElem?] at hl
    obtain ⟨k, hk⟩ : ∃ k, s.l.length = k + 1 := ⟨s.l.length - 1, by have := List.length_pos_iff.2 hne; omega⟩
    rw [hk, Nat.add_sub_cancel] at hl
    refine .inr ⟨k, a, hk, hl, ?_⟩
    split at h
    · rename_i e; injection h with h; exact .inl ⟨e, h.symm⟩
    · rename_i e
      split at h
      · cases h
      · rename_i d hd
        injection h with h
        refine .inr ⟨e, d, hd, ?_⟩
        split at h
        · rename_i h0; exact .inl ⟨h0, h.symm⟩
        · rename_i h0; exact .inr ⟨by omega, h.symm⟩
/-- The words of a statement. -/
theorem code_cases {s : Stm} {v : Int} {c : List Nat} (h : codeOf s v = some c) : s.w ≠ [46, 119, 111, 114, 100] ∧ s.w ≠ [46, 115, 112, 97, 99, 101] ∧
    ((s.w = [108, 105] ∧ ∃ a b x y, s.l = [a, b] ∧ 0 ≤ v ∧ v ≤ 4294967295 ∧ enc ⟨24, a.r, 0, 0, v / 65536⟩ = some x ∧ enc ⟨18, a.r, a.r, 0, v % 65536⟩ = some y ∧ c = [x, y]) ∨
     (s.w ≠ [108, 105] ∧ s.w ≠ [109, 118] ∧ s.w ≠ [110, 111, 112] ∧ ∃ W, inst s v = some W ∧ c = [W])) := by
  unfold codeOf at h
  split at h
  · cases h
  rename_i h1
  simp only [not_or] at h1
  refine ⟨h1.1, h1.2.1, ?_⟩
  split at h
  · rename_i hli
    split at h
    · rename_i a b hl
      split at h
      · rename_i hv
        split at h
        · rename_i x y hx hy
          injection h with h
          exact .inl ⟨hli, a, b, x, y, hl, hv.1, hv.2, hx, hy, h.symm⟩
        · cases h
      · cases h
    · cases h
  · rename_i hli
    obtain ⟨W, hW, rfl⟩ := Option.map_eq_some_iff.1 h
    exact .inr ⟨hli, h1.2.2.1, h1.2.2.2, W, hW, rfl⟩
theorem code_len {s : Stm} {v : Int} {c : List Nat} (h : codeOf s v = some c) : s.l.length ≤ 3 := by
  obtain ⟨_, _, h⟩ := code_cases h
  rcases h with ⟨_, a, b, x, y, hl, _⟩ | ⟨_, _, _, W, hW, _⟩
  · rw [hl]; simp
  · unfold inst at hW
    split at hW
    · cases hW
    rename_i x hx
    rcases ins_cases hx with ⟨_, a, b, c, hl, _⟩ | ⟨_, _, _, a, b, c, hl, _⟩ | ⟨_, _, _, a, b, hl, _⟩ | ⟨_, _, _, _, a, b, c, hl, _⟩ | ⟨_, _, hl, _⟩ <;> rw [hl] <;> simp
theorem smAt {w a : World} {A : Option Addr} {n : Nat} {L : List SmR} (h : Sl 6 smC w A n L) (ha : Held w a) {k : Nat} (hk : k < n) :
    ∃ b off x, A = some ⟨b, off, none⟩ ∧ b < w.heap.size ∧ L[k]? = some x ∧ a.cell? ⟨b, off + k * 6, none⟩ = some (.string ⟨x.w.toArray⟩) ∧ a.cell? ⟨b, off + k * 6 + 1, none⟩ = some (.int .i64 (x.op : Int)) ∧ a.cell? ⟨b, off + k * 6 + 2, none⟩ = some (.slice x.A x.n x.cap) ∧
      a.cell? ⟨b, off + k * 6 + 3, none⟩ = some (.int .i64 (x.line : Int)) ∧ a.cell? ⟨b, off + k * 6 + 4, none⟩ = some (.int .i64 (x.at_ : Int)) ∧ a.cell? ⟨b, off + k * 6 + 5, none⟩ = some (.int .i64 (x.sz : Int)) := by
  obtain ⟨b, off, x, e, hb, hx, hc⟩ := Sl.at_ h ha hk
  exact ⟨b, off, x, e, hb, hx, hc 0 _ rfl, hc 1 _ rfl, hc 2 _ rfl, hc 3 _ rfl, hc 4 _ rfl, hc 5 _ rfl⟩
theorem res_tc {fn : Func} {tmps : Array Value} {w : World} {a b k : Nat} {t : TypeId} {v : Value} (hr : fn.results = #[.tmp k, .cell a t]) (ha : tmps.getD a undef = .pointer (some ⟨b, 0, none⟩)) (hl : (loadVar t ⟨b, 0, none⟩).run Tryz.prog w = .ok v w) : (results fn tmps).run Tryz.prog w = .ok (.tuple #[tmps.getD k undef, v]) w := by
  unfold results
  rw [hr]
  simp only [List.mapM_toArray, List.mapM_cons, List.mapM_nil, ha, asAddr, pure_bind, Sem.run_bind, Sem.run_map, hl, Result.andThen_ok, Sem.run_pure, map_pure]
  rfl
def AsmTo (L : List Nat) (w : World) (e : Ending) (w' : World) : Prop := ∃ A n c, e = .returned (.tuple #[.slice A n c, .agg #[.int .i64 0, .int .i64 0]]) ∧ Own 40 1 wordC w.heap.size w' (.slice A n c) L ∧ Held w w'
set_option maxHeartbeats 8000000 in
theorem assemble_any (s : ByteArray) (L : List Nat) (h : asm s.data.toList = some L) (w : World) : Calls Tryz.prog 36 #[.string s] w (AsmTo L w) := by
  unfold asm at h
  split at h
  · cases h
  rename_i R hR
  have hbds : (∀ s ∈ R.l, s.a ≤ 4096) ∧ (∀ s ∈ R.s, s.at_ ≤ 1024) := by
    unfold read at hR
    split at hR
    · cases hR
    · exact read_bds _ _ _ _ hR (fun s h => by simp at h) (fun s h => by simp at h) (Nat.zero_le _)
  have hln : R.l.length ≤ 8192 ∧ R.s.length ≤ 8192 := read_lens hR
  have HRD := Lib.hid fun w => read_any s R hR w
  obtain ⟨Y, ss, at9⟩ := R
  dsimp only at hbds hln h
  have HB := Lib.hid hbds
  have H0 := Lib.hid h
  have HLN := Lib.hid hln
  have M0 := Lib.hid ((Mem.start w).alloc #[.int .i64 0, .int .i64 0] 94)
  clear h hR hbds hln
  go_enter Tryz.func36, Tryz.ntmps36
  go_wp2_with fail
  refine (HRD.out _).mono ?_
  rintro e w2 ⟨AY, ny, cy, AS, ns, cs, RS, rfl, hoY, hoS, hrs, hss, h2⟩
  dsimp only at hoY hrs
  have hYs := (Own.reads symC_len hoY).1
  have hYc := (Own.reads symC_len hoY).2.2
  have hYn := (Own.reads symC_len hoY).2.1
  have hSs := (Own.reads smC_len hoS).1
  have hSc := (Own.reads smC_len hoS).2.2
  have hSn := (Own.reads smC_len hoS).2.1
  have hrl : RS.length = ss.length := by rw [← hrs, List.length_map]
  have hl9 := HLN.out
  have hny : ny ≤ 100000 := by omega
  have hns : ns ≤ 8192 := by omega
  have hnr : RS.length = ns := by omega
  rw [← hrs] at H0
  have M2 := Lib.hid (M0.out.keep h2)
  have HY := Lib.hid hYs
  have HS := Lib.hid hSs
  have HSS := Lib.hid hss
  have HRS := Lib.hid hrs
  have HNR : Is RS.length ns := ⟨hnr⟩
  have R0 := Lib.hid (((Mem.start w2).skip (.cells #[.int .i64 0, .int .i64 0] 94)).nilRow (e := 40) (s := 1) (f := wordC))
  clear hoY hoS hYs hYn hSs hSn hrl hl9 hnr hss hrs h2 HLN HRD M0
  go_wp2
  go_loopw [7, 8] (fun v7 v8 wr => ∃ (q : Nat) (L1 R1 : List Nat), v8 = .int .i64 (q : Int) ∧ q ≤ ns ∧ L1.length ≤ 2 * q ∧ codeL Y ((RS.drop q).map SmR.g) = some R1 ∧ L = L1 ++ R1 ∧ Mem w2 wr [.row 40 1 wordC w2.heap.size v7 L1]) (fun _ i _ => ns - (RowKit.intOf i).toNat)
  case atStart => exact ⟨0, [], L, rfl, Nat.zero_le _, Nat.le_refl _, H0.out, rfl, R0.out⟩
  case round =>
    clear R0 H0
    obtain ⟨q, L1, R1, rfl, hq, hl1, hc, hL, hM⟩ := hrel
    obtain ⟨A7, cap7, rfl, hcap7, _⟩ := (hM.row 0 rfl).shape
    obtain ⟨n1, hn1⟩ : ∃ n1, L1.length = n1 := ⟨_, rfl⟩
    have HN1 : Is L1.length n1 := ⟨hn1⟩
    rw [hn1] at hM hl1 hcap7 ⊢
    have M := Lib.hid hM
    have HL := Lib.hid hL
    clear hn1 hM hL
    by_cases hlt : q < ns
    · have y1 : (q : Int) < ns := by omega
      have y2 : (0 : Int) ≤ q := by omega
      obtain ⟨b, off, x, rfl, hb, hx, c0, c1, c2, c3, c4, c5⟩ := smAt HS.out M.out.held hlt
      have hd : RS.drop q = x :: RS.drop (q + 1) := by
        obtain ⟨hh, he⟩ := List.getElem?_eq_some_iff.1 hx
        rw [List.drop_eq_getElem_cons hh, he]
      rw [hd, List.map_cons] at hc
      obtain ⟨v, c, W', hv, hcd, hW, hc'⟩ := code_step hc
      have hxm := List.mem_of_getElem? hx
      have hSm := HSS.out x hxm
      have hxat : x.at_ ≤ 1024 := HB.out.2 x.g (by rw [← HRS.out]; exact List.mem_map_of_mem hxm)
      have HC := Lib.hid hc'
      have HSM := Lib.hid (hSm.sl.held M.out.held)
      have hxc := hSm.cap
      obtain ⟨xw, xop, xA, xn, xcap, xl, xline, xat, xsz⟩ := x
      dsimp only [SmR.g] at hv hcd hxat hxc c0 c1 c2 c3 c4 c5 HSM
      obtain ⟨sw, hsw⟩ : ∃ sw : ByteArray, (⟨xw.toArray⟩ : ByteArray) = sw := ⟨_, rfl⟩
      have hwl : xw = sw.data.toList := by rw [← hsw, ba_l]
      rw [hsw] at c0
      clear hsw
      subst hwl
      subst hW
      have HVC := Lib.hid (val_cases hv)
      have hx3 := code_len hcd
      dsimp only at hx3
      have HCC := Lib.hid (code_cases hcd)
      have hbl : b < wr.heap.size := Nat.lt_of_lt_of_le hb M.out.le
      have hbn : ¬ b = wr.heap.size := by omega
      have hxl := HSM.out.1
      have M4 := Lib.hid (M.out.alloc #[.string sw, .int .i64 (xop : Int), .slice xA xn xcap, .int .i64 (xline : Int), .int .i64 (xat : Int), .int .i64 (xsz : Int)] 116)
      have HSM4 := Lib.hid (HSM.out.held ((Held.refl _).alloc (.cells #[.string sw, .int .i64 (xop : Int), .slice xA xn xcap, .int .i64 (xline : Int), .int .i64 (xat : Int), .int .i64 (xsz : Int)] 116)))
      have x0 := box6 M4.out 1 rfl
      obtain ⟨⟨x0, x1, x2, x3, x4, x5⟩, ⟨v0, v1, v2, v3, v4, v5⟩⟩ := x0
      clear hd hc hc' hv hcd hx hxm hSm hb
      go_upto_if 48 with fail
      go_cut [10] (fun v10 wx => v10 = .int .i64 v ∧ Held (wr.alloc (.cells #[.string sw, .int .i64 (xop : Int), .slice xA xn xcap, .int .i64 (xline : Int), .int .i64 (xat : Int), .int .i64 (xsz : Int)] 116)) wx)
      case first =>
        rcases HVC.out with ⟨hl, hv⟩ | ⟨k, a, hk, ha, hcase⟩
        · dsimp only at hl
          have y3 : ¬ (0 : Int) < xn := by rw [hl] at hxl; simp at hxl; omega
          have HV : Is v 0 := ⟨hv⟩
          clear hl hv HVC HCC
          go_wp2
          go_meet
          case rel => exact ⟨by rw [HV.out], Held.refl _⟩
        · dsimp only at hk ha
          have hk3 : k ≤ 2 := by rw [hk] at hx3; exact Nat.le_of_succ_le_succ hx3
          rcases (by omega : k = 0 ∨ k = 1 ∨ k = 2) with rfl | rfl | rfl
          · obtain rfl : xn = 1 := by omega
            have hkn : 0 < 1 := by decide
            obtain ⟨b2, off2, r, nn, lbl, rfl, hb2, ha2, d0, d1, d2⟩ := argAt HSM.out (Held.refl _) hkn
            have d3 : wr.cell? ⟨b2, off2, none⟩ = some (.int .i64 (r : Int)) := d0
            have d4 : wr.cell? ⟨b2, off2 + 1, none⟩ = some (.int .i64 (nn : Int)) := d1
            rw [ha2] at ha
            injection ha with ha
            subst ha
            dsimp only at hcase
            obtain ⟨slb, hslb⟩ : ∃ slb : ByteArray, (⟨lbl.toArray⟩ : ByteArray) = slb := ⟨_, rfl⟩
            have hll : slb.data.toList = lbl := by rw [← hslb, ba_l]
            rw [hslb] at d2
            have d5 : wr.cell? ⟨b2, off2 + 2, none⟩ = some (.string slb) := d2
            clear d0 d1 d2
            have ql := ba_eq slb []
            rw [hll] at ql
            have hb3 : ¬ b2 = wr.heap.size + 1 := by omega
            have hb4 : ¬ b2 = wr.heap.size := by omega
            clear hslb ha2 hk hxl HVC HCC
            rcases hcase with ⟨hlb, hv⟩ | ⟨hlb, d, hd, hcase⟩
            · rw [decide_eq_true hlb] at ql
              have HV : Is v nn := ⟨hv⟩
              clear hlb hv
              go_wp2
              go_meet
              case rel => exact ⟨by rw [HV.out], (Held.refl _).alloc _⟩
            · rw [decide_eq_false hlb] at ql
              have hd9 := addr_bd hd HB.out.1
              have yd : (d : Int) ≤ 4096 := by omega
              have HAD := Lib.hid fun (w' : World) (k : Held w2 w') => address_any AY ny cy Y slb w' (HY.out.held k) hny hYc
              rw [hll, hd] at HAD
              unfold AddrTo at HAD
              dsimp only [Option.getD_some, Option.isSome_some] at HAD
              clear hlb hd hd9 hll
              rcases hcase with ⟨h0, hv⟩ | ⟨h0, hv⟩
              · obtain ⟨dd, hdd⟩ : ∃ dd, d / 4 = dd := ⟨_, rfl⟩
                rw [hdd] at hv
                have t1 : (d : Int).tdiv 4 = (dd : Int) := by rw [Int.tdiv_eq_ediv_of_nonneg (by omega)]; omega
                have y7 : (0 : Int) < xop := by omega
                have y8 : (dd : Int) ≤ 1024 := by omega
                have y9 : (xat : Int) ≤ 1024 := by omega
                have HV : Is v ((dd : Int) - (xat : Int)) := ⟨hv⟩
                clear h0 hv hdd
                go_wp2_with fail
                refine (HAD.out _ ((M.out.held.alloc _).alloc _)).mono ?_
                rintro e w5 ⟨rfl, rfl⟩
                go_wp2
                go_meet
                case rel => exact ⟨by rw [HV.out], (Held.refl _).alloc _⟩
              · have y7 : ¬ (0 : Int) < xop := by omega
                have HV : Is v d := ⟨hv⟩
                clear h0 hv
                go_wp2_with fail
                refine (HAD.out _ ((M.out.held.alloc _).alloc _)).mono ?_
                rintro e w5 ⟨rfl, rfl⟩
                go_wp2
                go_meet
                case rel => exact ⟨by rw [HV.out], (Held.refl _).alloc _⟩
          · obtain rfl : xn = 2 := by omega
            have hkn : 1 < 2 := by decide
            obtain ⟨b2, off2, r, nn, lbl, rfl, hb2, ha2, d0, d1, d2⟩ := argAt HSM.out (Held.refl _) hkn
            have d3 : wr.cell? ⟨b2, off2 + 3, none⟩ = some (.int .i64 (r : Int)) := d0
            have d4 : wr.cell? ⟨b2, off2 + 4, none⟩ = some (.int .i64 (nn : Int)) := d1
            rw [ha2] at ha
            injection ha with ha
            subst ha
            dsimp only at hcase
            obtain ⟨slb, hslb⟩ : ∃ slb : ByteArray, (⟨lbl.toArray⟩ : ByteArray) = slb := ⟨_, rfl⟩
            have hll : slb.data.toList = lbl := by rw [← hslb, ba_l]
            rw [hslb] at d2
            have d5 : wr.cell? ⟨b2, off2 + 5, none⟩ = some (.string slb) := d2
            clear d0 d1 d2
            have ql := ba_eq slb []
            rw [hll] at ql
            have hb3 : ¬ b2 = wr.heap.size + 1 := by omega
            have hb4 : ¬ b2 = wr.heap.size := by omega
            clear hslb ha2 hk hxl HVC HCC
            rcases hcase with ⟨hlb, hv⟩ | ⟨hlb, d, hd, hcase⟩
            · rw [decide_eq_true hlb] at ql
              have HV : Is v nn := ⟨hv⟩
              clear hlb hv
              go_wp2
              go_meet
              case rel => exact ⟨by rw [HV.out], (Held.refl _).alloc _⟩
            · rw [decide_eq_false hlb] at ql
              have hd9 := addr_bd hd HB.out.1
              have yd : (d : Int) ≤ 4096 := by omega
              have HAD := Lib.hid fun (w' : World) (k : Held w2 w') => address_any AY ny cy Y slb w' (HY.out.held k) hny hYc
              rw [hll, hd] at HAD
              unfold AddrTo at HAD
              dsimp only [Option.getD_some, Option.isSome_some] at HAD
              clear hlb hd hd9 hll
              rcases hcase with ⟨h0, hv⟩ | ⟨h0, hv⟩
              · obtain ⟨dd, hdd⟩ : ∃ dd, d / 4 = dd := ⟨_, rfl⟩
                rw [hdd] at hv
                have t1 : (d : Int).tdiv 4 = (dd : Int) := by rw [Int.tdiv_eq_ediv_of_nonneg (by omega)]; omega
                have y7 : (0 : Int) < xop := by omega
                have y8 : (dd : Int) ≤ 1024 := by omega
                have y9 : (xat : Int) ≤ 1024 := by omega
                have HV : Is v ((dd : Int) - (xat : Int)) := ⟨hv⟩
                clear h0 hv hdd
                go_wp2_with fail
                refine (HAD.out _ ((M.out.held.alloc _).alloc _)).mono ?_
                rintro e w5 ⟨rfl, rfl⟩
                go_wp2
                go_meet
                case rel => exact ⟨by rw [HV.out], (Held.refl _).alloc _⟩
              · have y7 : ¬ (0 : Int) < xop := by omega
                have HV : Is v d := ⟨hv⟩
                clear h0 hv
                go_wp2_with fail
                refine (HAD.out _ ((M.out.held.alloc _).alloc _)).mono ?_
                rintro e w5 ⟨rfl, rfl⟩
                go_wp2
                go_meet
                case rel => exact ⟨by rw [HV.out], (Held.refl _).alloc _⟩
          · obtain rfl : xn = 3 := by omega
            have hkn : 2 < 3 := by decide
            obtain ⟨b2, off2, r, nn, lbl, rfl, hb2, ha2, d0, d1, d2⟩ := argAt HSM.out (Held.refl _) hkn
            have d3 : wr.cell? ⟨b2, off2 + 6, none⟩ = some (.int .i64 (r : Int)) := d0
            have d4 : wr.cell? ⟨b2, off2 + 7, none⟩ = some (.int .i64 (nn : Int)) := d1
            rw [ha2] at ha
            injection ha with ha
            subst ha
            dsimp only at hcase
            obtain ⟨slb, hslb⟩ : ∃ slb : ByteArray, (⟨lbl.toArray⟩ : ByteArray) = slb := ⟨_, rfl⟩
            have hll : slb.data.toList = lbl := by rw [← hslb, ba_l]
            rw [hslb] at d2
            have d5 : wr.cell? ⟨b2, off2 + 8, none⟩ = some (.string slb) := d2
            clear d0 d1 d2
            have ql := ba_eq slb []
            rw [hll] at ql
            have hb3 : ¬ b2 = wr.heap.size + 1 := by omega
            have hb4 : ¬ b2 = wr.heap.size := by omega
            clear hslb ha2 hk hxl HVC HCC
            rcases hcase with ⟨hlb, hv⟩ | ⟨hlb, d, hd, hcase⟩
            · rw [decide_eq_true hlb] at ql
              have HV : Is v nn := ⟨hv⟩
              clear hlb hv
              go_wp2
              go_meet
              case rel => exact ⟨by rw [HV.out], (Held.refl _).alloc _⟩
            · rw [decide_eq_false hlb] at ql
              have hd9 := addr_bd hd HB.out.1
              have yd : (d : Int) ≤ 4096 := by omega
              have HAD := Lib.hid fun (w' : World) (k : Held w2 w') => address_any AY ny cy Y slb w' (HY.out.held k) hny hYc
              rw [hll, hd] at HAD
              unfold AddrTo at HAD
              dsimp only [Option.getD_some, Option.isSome_some] at HAD
              clear hlb hd hd9 hll
              rcases hcase with ⟨h0, hv⟩ | ⟨h0, hv⟩
              · obtain ⟨dd, hdd⟩ : ∃ dd, d / 4 = dd := ⟨_, rfl⟩
                rw [hdd] at hv
                have t1 : (d : Int).tdiv 4 = (dd : Int) := by rw [Int.tdiv_eq_ediv_of_nonneg (by omega)]; omega
                have y7 : (0 : Int) < xop := by omega
                have y8 : (dd : Int) ≤ 1024 := by omega
                have y9 : (xat : Int) ≤ 1024 := by omega
                have HV : Is v ((dd : Int) - (xat : Int)) := ⟨hv⟩
                clear h0 hv hdd
                go_wp2_with fail
                refine (HAD.out _ ((M.out.held.alloc _).alloc _)).mono ?_
                rintro e w5 ⟨rfl, rfl⟩
                go_wp2
                go_meet
                case rel => exact ⟨by rw [HV.out], (Held.refl _).alloc _⟩
              · have y7 : ¬ (0 : Int) < xop := by omega
                have HV : Is v d := ⟨hv⟩
                clear h0 hv
                go_wp2_with fail
                refine (HAD.out _ ((M.out.held.alloc _).alloc _)).mono ?_
                rintro e w5 ⟨rfl, rfl⟩
                go_wp2
                go_meet
                case rel => exact ⟨by rw [HV.out], (Held.refl _).alloc _⟩
      case rest =>
        obtain ⟨rfl, h10⟩ := hcut
        have M10 := Lib.hid (M4.out.keep h10)
        have HSM10 := Lib.hid (HSM4.out.held h10)
        clear x0 x1 x2 x3 x4 x5 v0 v1 v2 v3 v4 v5 h10 M4 HSM4 HVC M HSM
        obtain ⟨⟨x0, x1, x2, x3, x4, x5⟩, ⟨v0, v1, v2, v3, v4, v5⟩⟩ := box6 M10.out 1 rfl
        have qw := ba_eq sw [46, 119, 111, 114, 100]
        have qs := ba_eq sw [46, 115, 112, 97, 99, 101]
        have qli := ba_eq sw [108, 105]
        have qmv := ba_eq sw [109, 118]
        have qno := ba_eq sw [110, 111, 112]
        obtain ⟨hw1, hw2, hcs⟩ := HCC.out
        dsimp only at hw1 hw2 hcs
        rw [decide_eq_false hw1] at qw
        rw [decide_eq_false hw2] at qs
        clear hw1 hw2 HCC
        rcases hcs with ⟨hli, a, bb, X, Z, hl2, hv0, hv1, he1, he2, rfl⟩ | ⟨hnli, hnmv, hnno, W, hin, rfl⟩
        · rw [decide_eq_true hli] at qli
          clear qmv qno hli
          subst hl2
          obtain ⟨rfl, b2, off2, rfl, hb2, d0⟩ := args2 HSM10.out
          have HE1 := Lib.hid fun w => encode_ok 24 a.r 0 0 (v / 65536) X he1 w
          have HE2 := Lib.hid fun w => encode_ok 18 a.r a.r 0 (v % 65536) Z he2 w
          unfold WordTo at HE1 HE2
          have z1 : (v % 4294967296) = v := by omega
          have z2 : v / 65536 ≤ 65535 := by omega
          have z3 : bits .and .u32 v 65535 = v % 65536 := by
            have h := enc_imm v
            rw [show v % 4294967296 = v from z1] at h
            rw [h]; omega
          have z4 : v % 65536 ≤ 65535 := by omega
          have z5 : 0 ≤ v % 65536 := by omega
          go_wp2_with fail
          refine (HE1.out _).mono ?_
          rintro e w11 ⟨rfl, h11⟩
          have M11 := Lib.hid (M10.out.keep h11)
          have d1 := h11.cell d0
          clear x0 x1 x2 x3 x4 x5 v0 v1 v2 v3 v4 v5 h11 M10 d0 HE1
          obtain ⟨⟨x0, x1, x2, x3, x4, x5⟩, ⟨v0, v1, v2, v3, v4, v5⟩⟩ := box6 M11.out 1 rfl
          go_upto_region 34 with fail
          have k0 := cell_regrown x2
          have k1 := cell_regrown d1
          have cE := Lib.hid fun d os => Calls.regrown_of (d := d) (os := os) (HE2.out (grow (redrawn w11 d) os))
          clear x0 x1 x2 x3 x4 x5 v0 v1 v2 v3 v4 v5 d1 HE2
          refine wp_region_quiet_below (by kernel_rfl) (by kernel_rfl) ?_
          repeat (go_big_quiet_step (first | (go_at_call 55; exact cE.out _ _)))
          refine wpQuiet_nil ?_
          intro w12 hw'
          obtain ⟨⟨dq, osq⟩, hw''⟩ := hw'
          have K12 := Lib.hid (show Held w11 w12 by rw [hw'']; exact below_regrown _ dq osq)
          clear hw'' cE k0 k1
          have M12 := Lib.hid (M11.out.keep K12.out)
          have M13 := Lib.hid (M12.out.skip (.cells #[.int .u32 (X : Int), .int .u32 (Z : Int)] 40))
          have hb1 : (n1 + 2) * 4 ≤ 140737488355328 := by omega
          clear K12 M11
          go_wp2_with (at_builtin; refine Mem.wp_apps M13.out 0 rfl rfl _ _ _ rfl _ 4 Tryz.underlying45 info_u32 rfl (by decide) wordC_len wordC_one [X, Z] ⟨_, 0, none⟩ 2 2 rfl rfl rfl (by decide) (cells_new _ rfl _ _) n1 HN1.out hb1 (by decide) ?_; intro g4 cp4 w13 M5'; have M14 := Lib.hid M5'; clear M5')
          go_roundw
          case rel => exact ⟨q + 1, L1 ++ [X, Z], W', by go_num, by omega, by rw [List.length_append, HN1.out]; simp only [List.length_cons, List.length_nil]; omega, HC.out, by rw [HL.out, List.append_assoc], M14.out.take 1⟩
          case measure => (simp [RowKit.intOf]) <;> omega
        · rw [decide_eq_false hnli] at qli
          rw [decide_eq_false hnmv] at qmv
          rw [decide_eq_false hnno] at qno
          have HIN := Lib.hid (inst_any sw xop xA xn xcap xl xline xat xsz v W wc HSM10.out hxc hin)
          unfold WordTo at HIN
          clear hnli hnmv hnno hin
          go_wp2_with fail
          refine HIN.out.mono ?_
          rintro e w11 ⟨rfl, h11⟩
          have M11 := Lib.hid (M10.out.keep h11)
          have M12 := Lib.hid (M11.out.skip (.cells #[.int .u32 (W : Int)] 40))
          have hb1 : (n1 + 1) * 4 ≤ 140737488355328 := by omega
          clear h11 HIN M10
          go_wp2_with (at_builtin; refine Mem.wp_app M12.out 0 rfl rfl _ _ _ rfl _ 4 Tryz.underlying45 info_u32 rfl (by decide) wordC_len wordC_one W ⟨w11.heap.size, 0, none⟩ 1 rfl rfl (cells_new _ rfl _ _) n1 HN1.out hb1 (by decide) ?_; intro g4 cp4 w12 M5'; have M13 := Lib.hid M5'; clear M5')
          go_roundw
          case rel => exact ⟨q + 1, L1 ++ [W], W', by go_num, by omega, by rw [List.length_append, HN1.out]; simp only [List.length_singleton]; omega, HC.out, by rw [HL.out, List.append_assoc], M13.out.take 1⟩
          case measure => (simp [RowKit.intOf]) <;> omega
    · obtain rfl : q = ns := by omega
      have y1 : ¬ (q : Int) < q := by omega
      have hR : R1 = [] := by
        have hn := HNR.out
        rw [List.drop_of_length_le (by omega), List.map_nil, codeL] at hc
        injection hc with hc
        exact hc.symm
      have HLL : Is L L1 := ⟨by rw [HL.out, hR, List.append_nil]⟩
      have MZ := Lib.hid (M2.out.own M.out.held (M.out.row 0 rfl))
      obtain ⟨b0, b1, b2⟩ := MZ.out.box2 0 rfl
      have MY := Lib.hid ((MZ.out.put 0 rfl 0 (.int .i64 0)).put 0 rfl 1 (.int .i64 0))
      clear hc hR HL
      go_wp2
      refine bodyPost_ret (res_tc Tryz.results36 rfl (load_err (MY.out.blk 0 rfl))) rfl ?_
      exact ⟨_, _, _, rfl, by rw [HLL.out]; exact MY.out.row 1 rfl, MY.out.held⟩
end As
end Go.Proofs.YtdacgdokbfcgdaaGreat

namespace Go.Proofs.YtdacgdokbfcgdaaGreat
open Go.RowKit Go.BigFrame Go.Sort Go.Lib
namespace Ma
theorem own_conv {α β : Type} {e : TypeId} {s : Nat} {f : α → List Value} {g : β → List Value} {k : α → β} (hk : ∀ x, g (k x) = f x) {base : Nat} {w : World} {v : Value} {L : List α} (h : Own e s f base w v L) : Own e s g base w v (L.map k) := by
  unfold Own at *
  have e1 : (L.map k).flatMap g = L.flatMap f := by
    rw [List.flatMap_map]
    exact congrArg (fun q => List.flatMap q L) (funext hk)
  rw [e1, List.length_map]
  exact h
def kern : ByteArray := ⟨As.kernS.toArray⟩
theorem kern_all : ((As.asm As.kernS).map fun L => L.all fun x => decide (x ≤ 4294967295)) = some true := by decide +kernel
theorem kern_ok : ∃ L, As.asm kern.data.toList = some L ∧ L.length = 75 ∧ ∀ x ∈ L, x ≤ 4294967295 := by
  have e : kern.data.toList = As.kernS := rfl
  rw [e]
  have h1 := As.asm_kern
  have h2 := kern_all
  cases h : As.asm As.kernS with
  | none => rw [h] at h1; cases h1
  | some L =>
    rw [h] at h1 h2
    simp only [Option.map_some, Option.some.injEq] at h1 h2
    exact ⟨L, rfl, h1, fun x hx => by simpa using List.all_eq_true.1 h2 x hx⟩
def KernTo (w : World) (e : Ending) (w' : World) : Prop := ∃ A c L, e = .returned (.tuple #[.slice A 75 c, .agg #[.int .i64 0, .int .i64 0]]) ∧ L.length = 75 ∧ Wds L ∧ Own 40 1 uC w.heap.size w' (.slice A 75 c) L ∧ Held w w'
theorem kern_any (s : ByteArray) (hs : s = kern) (w : World) : Calls Tryz.prog 36 #[.string s] w (KernTo w) := by
  subst hs
  obtain ⟨L, h1, h2, h3⟩ := kern_ok
  refine (As.assemble_any kern L h1 w).mono ?_
  rintro e w' ⟨A, n, c, rfl, ho, hh⟩
  have hn : L.length = n := (Own.reads As.wordC_len ho).2.1.symm
  rw [h2] at hn
  subst hn
  refine ⟨A, c, L.map Int.ofNat, rfl, by rw [List.length_map, h2], ?_, own_conv (fun x => rfl) ho, hh⟩
  intro z hz
  obtain ⟨x, hx, rfl⟩ := List.mem_map.1 hz
  have := h3 x hx
  exact ⟨Int.natCast_nonneg x, by show (x : Int) ≤ _; omega⟩
def sliceN (v : Value) : Nat := match v with | .slice _ n _ => n | _ => 0
theorem zD4_ok : DvOK (zDb 4) := ⟨⟨by decide, by decide⟩, ⟨by decide, by decide⟩, ⟨by decide, by decide⟩, ⟨by decide, by decide⟩, ⟨by decide, by decide⟩, ⟨by decide, by decide⟩, ⟨by decide, by decide⟩, ⟨by decide, by decide⟩, ⟨by decide, by decide⟩, ⟨by decide, by decide⟩, ⟨by decide, by decide⟩, ⟨by decide, by decide⟩, ⟨by decide, by decide⟩, ⟨by decide, by decide⟩, ⟨by decide, by decide⟩, by decide, by decide⟩
theorem rC_ok : CpuOK rC := ⟨rfl, fun n h => by
  simp only [rC, List.mem_cons, List.not_mem_nil, or_false] at h
  have : n = 0 ∨ n = 1 := by omega
  rcases this with rfl | rfl
  · exact ⟨by decide, by decide⟩
  · exact ⟨by decide, by decide⟩⟩
theorem wds_app {L M : List Int} (h : Wds L) (k : Wds M) : Wds (L ++ M) := fun z hz => (List.mem_append.1 hz).elim (h z) (k z)
theorem mem_of {I : List Int} {n : Nat} (h : Wds I) (hn : I.length = n) (hl : n ≤ 256) : MemOK (I ++ (List.replicate 256 0).drop n) := by
  refine ⟨by rw [List.length_append, List.length_drop, List.length_replicate, hn]; omega, wds_app h fun z hz => ?_⟩
  have := List.eq_of_mem_replicate (List.mem_of_mem_drop hz)
  subst this
  exact ⟨by decide, by decide⟩
def NewTo (I : List Int) (ni : Nat) (w : World) (e : Ending) (w' : World) : Prop := ∃ g, e = .returned (.tuple #[macV rC (.slice (some ⟨g, 0, none⟩) 256 256) (zDb 4), .bool true]) ∧ Mem w w' [memN w.heap.size g 256 (I ++ (List.replicate 256 0).drop ni)]
theorem new84 (A : Option Addr) (ni cap : Nat) (I : List Int) (w : World) (hI : Sl 1 uC w A ni I) (hn : ni ≤ 256) : Calls Tryz.prog 38 #[.int .i64 8, .int .i64 4, .slice A ni cap] w (NewTo I ni w) :=
  new7_any 8 4 (by decide) (by decide) (by decide) A ni cap I w hI hn
def MachTo (w : World) (e : Ending) (w' : World) : Prop := ∃ (C : List Int) (A : Option Addr) (n cap : Nat) (d : Dv) (M : List Int), e = .returned (macV C (.slice A n cap) d) ∧ RcS n C M ∧ DvOK d ∧ d.cnt ≤ 200 ∧ Sl 1 uC w' A n M ∧ Held w w'
set_option maxHeartbeats 8000000 in
theorem machine_any (kind : Int) (hk0 : -9223372036854775808 ≤ kind ∧ kind ≤ 9223372036854775807) (A0 : Option Addr) (n0 cap0 : Nat) (L : List Int) (w : World) (h : Sl 1 nC w A0 n0 L) (hn : n0 ≤ 40) : Calls Tryz.prog 17 #[.int .i64 kind, .slice A0 n0 cap0] w (MachTo w) := by
  have HC := Lib.hid fun (w' : World) (h' : Held w w') => code_any A0 n0 cap0 L w' (h.held h') hn
  have HK := Lib.hid fun (s : ByteArray) (hs : s = kern) w => kern_any s hs w
  have HR := Lib.hid fun w => Mk.round_any kind 3 (by omega) (by omega) (by omega) (by omega) w
  have hrb := Mk.round_bd kind 3 (by omega)
  obtain ⟨r, hr⟩ : ∃ r, Mk.round kind 3 = r := ⟨_, rfl⟩
  rw [hr] at HR hrb
  have HRC : Hid (rC.length = 25) := Lib.hid rfl
  have HZC : Hid (zC.length = 25) := Lib.hid rfl
  have M0 : Hid (Mem w _ [.box w.heap.size z49 57, .row 40 1 uC w.heap.size (.slice (some ⟨w.heap.size + 1, 0, none⟩) 0 0) []]) := Lib.hid (((Mem.start w).allocF (b := w.heap.size) rfl z49 57).emptyRow (e := 40) (s := 1) (f := uC) (b := w.heap.size + 1) (by simp))
  unfold CodeTo at HC
  clear h hr
  go_enter Tryz.func17, Tryz.ntmps17
  go_wp2_with fail
  refine (HR.out _).mono ?_
  rintro e w1 ⟨rfl, rfl⟩
  go_upto_if 12 with fail
  go_cut [5] (fun v5 wx => ∃ (I : List Int) (n5 : Nat), I.length = n5 ∧ n5 ≤ 160 ∧ Wds I ∧ Mem w wx [.box w.heap.size z49 57, .row 40 1 uC w.heap.size v5 I])
  case first =>
    by_cases hr2 : r < 2
    · go_wp2_with fail
      refine (HK.out _ (by kernel_rfl) _).mono ?_
      rintro e w3 ⟨A, c, I0, rfl, hI1, hI2, ho, h3⟩
      have M3 : Hid (Mem w w3 [.box w.heap.size z49 57, .row 40 1 uC w.heap.size (.slice A 75 c) I0]) := Lib.hid ((M0.out.own h3 ho).pick [0, 2] (by decide) rfl)
      have HI0 := Lib.hid (And.intro hI1 hI2)
      clear ho h3 hI1 hI2 M0 HK
      dsimp only
      go_wp2_with fail
      rw [decide_eq_true hr2]
      go_loopw [5] (fun v5 wr => ∃ (I : List Int) (n5 : Nat), I.length = n5 ∧ n5 ≤ 160 ∧ Wds I ∧ Mem w wr [.box w.heap.size z49 57, .row 40 1 uC w.heap.size v5 I]) (fun v5 _ => 160 - sliceN v5)
      case atStart => exact ⟨I0, 75, HI0.out.1, by decide, HI0.out.2, M3.out⟩
      case round =>
        clear M3 HI0
        obtain ⟨I, n5, hIl, hn5, hIw, hM⟩ := hrel
        obtain ⟨A5, cap5, rfl, hcap5, _⟩ := (hM.row 1 rfl).shape
        rw [hIl] at hM hcap5 ⊢
        have M := Lib.hid hM
        have HIl := Lib.hid hIl
        have HIw := Lib.hid hIw
        clear hM hIl hIw
        by_cases hlt : n5 < 160
        · have y1 : (n5 : Int) < 160 := by omega
          have hb1 : (n5 + 1) * 4 ≤ 140737488355328 := by omega
          have M2 := Lib.hid (M.out.alloc #[.int .u32 0] 40)
          go_wp2_with (at_builtin; refine Mem.wp_app M2.out 1 rfl rfl _ _ _ rfl _ 4 Tryz.underlying45 info_u32 rfl (by decide) uC_len uC_one (0 : Int) ⟨wr.heap.size, 0, none⟩ 1 rfl rfl (cells_new _ rfl _ _) n5 HIl.out hb1 (by decide) ?_; intro g4 cp4 w4 M4'; have M4 := Lib.hid M4'; clear M4')
          go_roundw
          case rel => exact ⟨I ++ [0], n5 + 1, by rw [List.length_append, HIl.out, List.length_singleton], by omega, wds_snoc HIw.out ⟨by decide, by decide⟩, M4.out.pick [0, 1] (by decide) rfl⟩
          case measure => (simp [sliceN]) <;> omega
        · have y1 : ¬ (n5 : Int) < 160 := by omega
          go_wp2_with fail
          go_meet
          case rel => exact ⟨I, n5, HIl.out, hn5, HIw.out, M.out⟩
    · go_wp2_with fail
      go_meet
      case rel => exact ⟨[], 0, rfl, by decide, (fun z hz => by cases hz), M0.out⟩
  case rest =>
    obtain ⟨I, n5, hIl, hn5, hIw, hM⟩ := hcut
    obtain ⟨A5, cap5, rfl, hcap5, _⟩ := (hM.row 1 rfl).shape
    rw [hIl] at hM hcap5 ⊢
    have M := Lib.hid hM
    have HIl := Lib.hid hIl
    have HIw := Lib.hid hIw
    clear hM hIl hIw M0 HK
    go_wp2_with fail
    refine (HC.out _ M.out.held).mono ?_
    rintro e w3 ⟨A6, cap6, L6, rfl, hl6, hw6, ho6, h6⟩
    have M3 := Lib.hid (M.out.keep h6)
    have HS6 := Lib.hid (Own.reads uC_len ho6).1
    have HL6 := Lib.hid (And.intro hl6 hw6)
    clear hl6 hw6 ho6 h6 HC
    have y1 : ¬ (256 : Int) < (n5 : Int) + (n0 : Int) := by omega
    have y1' : (n5 : Int) + (n0 : Int) ≤ 256 := by omega
    go_wp2_with (at_builtin; refine Mem.wp_cat M3.out 1 rfl rfl _ _ _ rfl _ 4 Tryz.underlying45 info_u32 rfl (by decide) uC_len uC_one L6 A6 n0 cap6 rfl rfl HS6.out HIl.out (by omega) (by decide) ?_; intro A7 cap7 w7 MM' hA7; (try simp only [List.set_cons_zero, List.set_cons_succ] at MM'); have M7 := Lib.hid MM'; clear MM' hA7)
    have HNW := Lib.hid fun (w' : World) (h' : Held w7 w') => new84 A7 (n5 + n0) cap7 (I ++ L6) w' ((((M7.out.row 1 rfl).reads uC_len).1).held h') (by omega)
    unfold NewTo at HNW
    go_wp2_with fail
    refine (HNW.out _ (Held.refl _)).mono ?_
    rintro e w8 ⟨g, rfl, h8⟩
    have M8 : Hid (Mem w _ [.box w8.heap.size z49 57, memN w.heap.size g 256 ((I ++ L6) ++ (List.replicate 256 0).drop (n5 + n0)), .box w.heap.size z49 57]) := Lib.hid ((((M7.out.joinF h8).rebaseR 0 rfl M7.out.le).allocF (b := w8.heap.size) rfl z49 57).pick [0, 1, 2] (by decide) rfl)
    have HMO := Lib.hid (mem_of (wds_app HIw.out HL6.out.2) (by rw [List.length_append, HIl.out, HL6.out.1] : (I ++ L6).length = n5 + n0) (by omega))
    obtain ⟨X, hX⟩ : ∃ X, (I ++ L6) ++ (List.replicate 256 0).drop (n5 + n0) = X := ⟨_, rfl⟩
    rw [hX] at M8 HMO
    clear h8 HNW M7 M3 HS6 HL6 M HIl HIw hX y1 y1'
    dsimp only
    go_upto_if 38 with (show wpList _ _ _ ((⟨_, Op.store 57 _ _, _, _, _, _⟩ : Oper) :: _) _ _; refine Mem.go_storeAll 57 rfl rfl rfl rfl 0 M8.out rfl (by rw [mc_size HRC.out]; exact sMac) (by first | (rw [mc_size HRC.out]; done) | (rw [mc_size HRC.out]; rfl) | (rw [mc_size HRC.out, mc_size HRC.out]; done) | (rw [mc_size HRC.out, mc_size HRC.out]; rfl)) (mc_one _ rfl _ (fun v hv => by cases hv)) ?_; intro w9 MM'; (try simp only [List.set_cons_zero, List.set_cons_succ] at MM'); have M9 := Lib.hid MM'; clear MM')
    go_cut [] (fun wx => ∃ (C : List Int) (v : Value) (A : Option Addr) (n cap : Nat) (d : Dv) (M : List Int), v = .slice A n cap ∧ RcS n C M ∧ DvOK d ∧ d.cnt ≤ 200 ∧ Mem w wx [.box w8.heap.size (mcA C v d []) 57, .box w.heap.size z49 57, .row 40 1 uC w.heap.size v M])
    case first =>
      have HRN := Lib.hid fun w' h => run_any rC (some ⟨g, 0, none⟩) 256 (zDb 4) X rC_ok zD4_ok rfl HMO.out w' h
      unfold RunTo at HRN
      by_cases hr1 : r = 1
      · subst hr1
        go_wp2_with (show wpList _ _ _ ((⟨_, Op.load 57 _, _, _, _, _⟩ : Oper) :: _) _ _; refine Mem.go_loadAll 57 rfl rfl rfl 0 M9.out rfl uMac (by rw [mc_size HRC.out]; exact sMac) ?_)
        refine (HRN.out _ ((M9.out.row 1 rfl).reads uC_len).1).mono ?_
        rintro e wb ⟨C', A, n, cap, d', M', v1, v2, v3, rfl, hS, hD, hcn, ho, hb⟩
        have MB := Lib.hid (M9.out.own hb ho)
        have HC2 := Lib.hid hS.cpu.len
        have HZ := Lib.hid (And.intro hS (And.intro hD hcn))
        clear hS hD hcn ho hb
        dsimp only
        go_wp2_with (show wpList _ _ _ ((⟨_, Op.store 57 _ _, _, _, _, _⟩ : Oper) :: _) _ _; refine Mem.go_storeAll 57 rfl rfl rfl rfl 0 MB.out rfl (by rw [mc_size HC2.out]; exact sMac) (by first | (rw [mc_size HC2.out]; done) | (rw [mc_size HC2.out]; rfl) | (rw [mc_size HC2.out, mc_size HRC.out]; done) | (rw [mc_size HC2.out, mc_size HRC.out]; rfl)) (mc_one _ rfl _ (fun v hv => by cases hv)) ?_; intro wc9 MM'; (try simp only [List.set_cons_zero, List.set_cons_succ] at MM'); have MC := Lib.hid MM'; clear MM')
        go_meet
        case rel => exact ⟨C', .slice A n cap, A, n, cap, d', M', rfl, HZ.out.1, HZ.out.2.1, HZ.out.2.2, MC.out.pick [0, 2, 3] (by decide) rfl⟩
      · go_wp2_with fail
        go_meet
        case rel => exact ⟨rC, _, some ⟨g, 0, none⟩, 256, 256, zDb 4, X, rfl, ⟨.inl rfl, rC_ok, fun _ => HMO.out⟩, zD4_ok, by decide, M9.out.pick [0, 2, 1] (by decide) rfl⟩
    case rest =>
      obtain ⟨C, v, A, n, cap, d, M, rfl, hS, hD, hcn, hM⟩ := hcut
      have MD := Lib.hid hM
      have HC2 := Lib.hid hS.cpu.len
      have HZ := Lib.hid (And.intro hS (And.intro hD hcn))
      clear hM hS hD hcn M9 M8
      go_wp2_with (first | (show wpList _ _ _ ((⟨_, Op.load 57 _, _, _, _, _⟩ : Oper) :: _) _ _; refine Mem.go_loadAll 57 rfl rfl rfl 0 MD.out rfl uMac (by rw [mc_size HC2.out]; exact sMac) ?_) | (show wpList _ _ _ ((⟨_, Op.store 57 _ _, _, _, _, _⟩ : Oper) :: _) _ _; refine Mem.go_storeAll 57 rfl rfl rfl rfl 1 MD.out rfl (by rw [mc_size HC2.out]; exact sMac) (by first | (rw [mc_size HC2.out]; done) | (rw [mc_size HC2.out]; rfl) | (rw [mc_size HC2.out, mc_size HC2.out]; done) | (rw [mc_size HC2.out, mc_size HC2.out]; rfl)) (mc_one _ rfl _ (fun v hv => by cases hv)) ?_; intro we MM'; (try simp only [List.set_cons_zero, List.set_cons_succ] at MM'); have ME := Lib.hid MM'; clear MM'))
      refine bodyPost_ret (Bx.res_c Tryz.results17 rfl (load_mac (mc_size HC2.out) (ME.out.blk 1 rfl))) rfl ?_
      exact ⟨C, A, n, cap, d, M, rfl, HZ.out.1, HZ.out.2.1, HZ.out.2.2, ((ME.out.row 2 rfl).reads uC_len).1, ME.out.held⟩
end Ma
end Go.Proofs.YtdacgdokbfcgdaaGreat
