/-
  One instruction for each number (vmfleetmake.Inst).
  The words that a program is made of (vmfleetmake.Code).
  Plain laws and contracts of the reference's assembler: tokens.
  Contracts of the reference's assembler: tokens (DRAFT: does not build whole).
-/
import Derived.Test.YtdacgdokbfcgdaaGreatW16
import Derived.Test.YtdacgdokbfcgdaaGreatW7
import Derived.OpenShut
import Derived.Test.YtdacgdokbfcgdaaGreatW6
import Derived.Test.YtdacgdokbfcgdaaGreatW1
set_option linter.unusedVariables false
set_option linter.unusedSimpArgs false
set_option maxRecDepth 100000
namespace Go.Proofs.YtdacgdokbfcgdaaGreat
open Go.RowKit Go.BigFrame Go.Sort Go.Lib
namespace Ma
def InsTo (w : World) (e : Ending) (w' : World) : Prop := ∃ (op a b c : Nat) (i : Int), e = .returned (.agg #[.int .i64 (op : Int), .int .i64 (a : Int), .int .i64 (b : Int), .int .i64 (c : Int), .int .i32 i]) ∧ (-2147483648 ≤ i ∧ i ≤ 2147483647) ∧ Held w w'
theorem rnd_nat (v : Nat) (hv : v < 9223372036854775808) (m : Nat) (k : Nat) (hk : 1 ≤ k) (hk2 : k ≤ 100) (hm : 1 ≤ m) (w : World) : Calls Tryz.prog 15 #[.int .i64 ((v : Int) / (m : Int)), .int .i64 (k : Int)] w fun e w' => e = .returned (.int .i64 (((Mk.round ((v : Int) / (m : Int)) k).toNat : Nat) : Int)) ∧ w = w' := by
  have h0 : (0 : Int) ≤ (v : Int) / (m : Int) := Int.ediv_nonneg (by omega) (by omega)
  have h1 : (v : Int) / (m : Int) ≤ v := Int.ediv_le_self _ (by omega)
  refine (Mk.round_any ((v : Int) / (m : Int)) (k : Int) (by omega) (by omega) (by omega) (by omega) w).mono fun e w' h => ⟨?_, h.2⟩
  rw [h.1, Int.toNat_of_nonneg (Mk.round_bd _ (k : Int) (by omega)).1]
theorem load_ins {w : World} {b : Nat} {cs : Array Value} {t : TypeId} (hs : cs.size = 5) (h : w.heap[b]? = some (.cells cs t (0, 0))) : (loadVar 123 ⟨b, 0, none⟩).run Tryz.prog w = .ok (.agg cs) w := by
  obtain ⟨fs, hu⟩ := uIns
  have := Big.run_load (P := Tryz.prog) w b 0 5 t 123 cs (0, 0) _ h hu rfl sIns (by omega) cs.toList (by rw [List.drop_zero, List.take_of_length_le (by rw [Array.length_toList]; omega)])
  simpa using this
theorem nb {z n : Int} (h : ¬ z = n) : (z == n) = false := by simpa using h
theorem ins_one (a b c d i : Int) : ∀ v ∈ (#[.int .i64 a, .int .i64 b, .int .i64 c, .int .i64 d, .int .i32 i] : Array Value).toList, v.oneCell' = true := by
  intro v hv
  simp only [List.mem_cons, List.not_mem_nil, or_false] at hv
  rcases hv with rfl | rfl | rfl | rfl | rfl <;> rfl
set_option maxHeartbeats 8000000 in
theorem inst_any (n : Int) (w : World) : Calls Tryz.prog 57 #[.int .i64 n] w (InsTo w) := by
  have HOP := Lib.hid fun w => ops_any w
  obtain ⟨v, hv⟩ : ∃ v, Mk.mix n 1 = v := ⟨_, rfl⟩
  have HM := Lib.hid fun w => Mk.mix_any n 1 w
  have hvl := Mk.mix_lt n 1
  rw [hv] at HM hvl
  clear hv
  have R0 := fun w => rnd_nat v hvl 1 50 (by decide) (by decide) (by decide) w
  have R1 := fun w => rnd_nat v hvl 256 6 (by decide) (by decide) (by decide) w
  have R2 := fun w => rnd_nat v hvl 4096 6 (by decide) (by decide) (by decide) w
  have R3 := fun w => rnd_nat v hvl 65536 6 (by decide) (by decide) (by decide) w
  have R4 := fun w => rnd_nat v hvl 1048576 24 (by decide) (by decide) (by decide) w
  have b0 := Mk.round_bd ((v : Int) / ((1 : Nat) : Int)) ((50 : Nat) : Int) (by decide)
  have b4 := Mk.round_bd ((v : Int) / ((1048576 : Nat) : Int)) ((24 : Nat) : Int) (by decide)
  obtain ⟨r0, h0⟩ : ∃ r, (Mk.round ((v : Int) / ((1 : Nat) : Int)) ((50 : Nat) : Int)).toNat = r := ⟨_, rfl⟩
  obtain ⟨r1, h1⟩ : ∃ r, (Mk.round ((v : Int) / ((256 : Nat) : Int)) ((6 : Nat) : Int)).toNat = r := ⟨_, rfl⟩
  obtain ⟨r2, h2⟩ : ∃ r, (Mk.round ((v : Int) / ((4096 : Nat) : Int)) ((6 : Nat) : Int)).toNat = r := ⟨_, rfl⟩
  obtain ⟨r3, h3⟩ : ∃ r, (Mk.round ((v : Int) / ((65536 : Nat) : Int)) ((6 : Nat) : Int)).toNat = r := ⟨_, rfl⟩
  obtain ⟨r4, h4⟩ : ∃ r, (Mk.round ((v : Int) / ((1048576 : Nat) : Int)) ((24 : Nat) : Int)).toNat = r := ⟨_, rfl⟩
  have hr0 : r0 < 50 := by omega
  have hr4 : r4 < 24 := by omega
  rw [h0] at R0
  rw [h1] at R1
  rw [h2] at R2
  rw [h3] at R3
  rw [h4] at R4
  have R0' : ∀ w : World, Calls Tryz.prog 15 #[.int .i64 ((v : Int)), .int .i64 50] w fun e w' => e = .returned (.int .i64 (r0 : Int)) ∧ w = w' := fun w => by
    have h := R0 w
    rw [show ((v : Int) / ((1 : Nat) : Int)) = (v : Int) from Int.ediv_one _] at h
    exact h
  have R1' : ∀ w : World, Calls Tryz.prog 15 #[.int .i64 ((v : Int) / 256), .int .i64 6] w fun e w' => e = .returned (.int .i64 (r1 : Int)) ∧ w = w' := R1
  have R2' : ∀ w : World, Calls Tryz.prog 15 #[.int .i64 ((v : Int) / 4096), .int .i64 6] w fun e w' => e = .returned (.int .i64 (r2 : Int)) ∧ w = w' := R2
  have R3' : ∀ w : World, Calls Tryz.prog 15 #[.int .i64 ((v : Int) / 65536), .int .i64 6] w fun e w' => e = .returned (.int .i64 (r3 : Int)) ∧ w = w' := R3
  have R4' : ∀ w : World, Calls Tryz.prog 15 #[.int .i64 ((v : Int) / 1048576), .int .i64 24] w fun e w' => e = .returned (.int .i64 (r4 : Int)) ∧ w = w' := R4
  have H0 := Lib.hid R0'
  have H1 := Lib.hid R1'
  have H2 := Lib.hid R2'
  have H3 := Lib.hid R3'
  have H4 := Lib.hid R4'
  clear h0 h1 h2 h3 h4 b0 b4 R0 R1 R2 R3 R4 R0' R1' R2' R3' R4'
  have M0 := Lib.hid ((Mem.start w).allocF (b := w.heap.size) rfl #[.int .i64 0, .int .i64 0, .int .i64 0, .int .i64 0, .int .i32 0] 123)
  unfold OpsTo at HOP
  go_enter Tryz.func57, Tryz.ntmps57
  go_wp2_with fail
  refine (HOP.out _).mono ?_
  rintro e w1 ⟨g, rfl, h1, hc⟩
  obtain ⟨z, hzs, hz⟩ := hc r0 hr0
  have hz1 := hzs.1
  have hz2 := hzs.2.1
  have M1 := Lib.hid (M0.out.keep h1)
  clear hc h1
  have zr : (r0 : Int) < 50 := by omega
  have zr0 : (0 : Int) ≤ r0 := by omega
  go_wp2_with fail
  refine (HM.out _).mono ?_
  rintro e w2 ⟨rfl, rfl⟩
  go_upto_region 3 with fail
  have HZ := Lib.hid fun (w' : World) (h : Held w1 w') => h.cell hz
  go_cut [5] (fun v5 wx => ∃ b5 : Nat, v5 = .pointer (some ⟨b5, 0, none⟩) ∧ Mem w wx [.box b5 #[.int .i64 (z : Int), .int .i64 (r1 : Int), .int .i64 (r2 : Int), .int .i64 (r3 : Int), .int .i32 0] 123, .box w.heap.size #[.int .i64 0, .int .i64 0, .int .i64 0, .int .i64 0, .int .i32 0] 123])
  have NEW : Hid (Mem w _ [.box w1.heap.size #[.int .i64 (z : Int), .int .i64 (r1 : Int), .int .i64 (r2 : Int), .int .i64 (r3 : Int), .int .i32 0] 123, .box w.heap.size #[.int .i64 0, .int .i64 0, .int .i64 0, .int .i64 0, .int .i32 0] 123]) := Lib.hid (M1.out.allocF (b := w1.heap.size) rfl #[.int .i64 (z : Int), .int .i64 (r1 : Int), .int .i64 (r2 : Int), .int .i64 (r3 : Int), .int .i32 0] 123).drew
  case first =>
    refine Tl.start 18 (fun w' => w'.cell? ⟨g, r0, none⟩ = some (.int .i64 (z : Int))) (by kernel_rfl) (HZ.out _ (Held.refl w1).drew) (fun hHeld => ?_)
    refine Tl.tf 0 (⟨some 10, .move (.tmp 3), 22, "make.go:43", #[], none⟩ : Oper) ?v1 rfl ?hy1 (by assumption) ?_
    case hy1 => (intro w; go_simp; all_goals (with_reducible rfl))
    try simp only [Act.put, Tl.p2, Tl.p3, Tl.p4]
    refine Tl.tf 1 (⟨some 11, .move (.tmp 4), 3, "make.go:43", #[], none⟩ : Oper) ?v2 rfl ?hy2 (by assumption) ?_
    case hy2 => (intro w; go_simp; all_goals (with_reducible rfl))
    try simp only [Act.put, Tl.p2, Tl.p3, Tl.p4]
    refine Tl.tf 2 (⟨some 12, .move (.tmp 3), 22, "make.go:43", #[], none⟩ : Oper) ?v3 rfl ?hy3 (by assumption) ?_
    case hy3 => (intro w; go_simp; all_goals (with_reducible rfl))
    try simp only [Act.put, Tl.p2, Tl.p3, Tl.p4]
    refine Tl.tf 3 (⟨some 13, .call { callee := .builtin .len, args := #[.tmp 12], argTypes := #[22] }, 3, "make.go:43", #[⟨2, .data⟩], none⟩ : Oper) ?v4 rfl ?hy4 (by assumption) ?_
    case hy4 => (intro w; go_simp; all_goals (with_reducible rfl))
    try simp only [Act.put, Tl.p2, Tl.p3, Tl.p4]
    refine Tl.tf 7 (⟨some 17, .move (.tmp 4), 3, "make.go:43", #[], none⟩ : Oper) ?v5 rfl ?hy5 (by assumption) ?_
    case hy5 => (intro w; go_simp; all_goals (with_reducible rfl))
    try simp only [Act.put, Tl.p2, Tl.p3, Tl.p4]
    refine Tl.tf 8 (⟨some 18, .binOp .shr 3 (.tmp 17) (.const (.int .u64 8)) 105, 3, "make.go:43", #[⟨7, .data⟩], none⟩ : Oper) ?v6 rfl ?hy6 (by assumption) ?_
    case hy6 => (intro w; go_simp; all_goals (with_reducible rfl))
    try simp only [Act.put, Tl.p2, Tl.p3, Tl.p4]
    refine Tl.tf 10 (⟨some 20, .move (.tmp 4), 3, "make.go:43", #[], none⟩ : Oper) ?v7 rfl ?hy7 (by assumption) ?_
    case hy7 => (intro w; go_simp; all_goals (with_reducible rfl))
    try simp only [Act.put, Tl.p2, Tl.p3, Tl.p4]
    refine Tl.tf 11 (⟨some 21, .binOp .shr 3 (.tmp 20) (.const (.int .u64 12)) 105, 3, "make.go:43", #[⟨10, .data⟩], none⟩ : Oper) ?v8 rfl ?hy8 (by assumption) ?_
    case hy8 => (intro w; go_simp; all_goals (with_reducible rfl))
    try simp only [Act.put, Tl.p2, Tl.p3, Tl.p4]
    refine Tl.tf 13 (⟨some 23, .move (.tmp 4), 3, "make.go:43", #[], none⟩ : Oper) ?v9 rfl ?hy9 (by assumption) ?_
    case hy9 => (intro w; go_simp; all_goals (with_reducible rfl))
    try simp only [Act.put, Tl.p2, Tl.p3, Tl.p4]
    refine Tl.tf 14 (⟨some 24, .binOp .shr 3 (.tmp 23) (.const (.int .u64 16)) 105, 3, "make.go:43", #[⟨13, .data⟩], none⟩ : Oper) ?v10 rfl ?hy10 (by assumption) ?_
    case hy10 => (intro w; go_simp; all_goals (with_reducible rfl))
    try simp only [Act.put, Tl.p2, Tl.p3, Tl.p4]
    refine Tl.many (rs := [4, 17]) (by kernel_rfl) (by simp) ?_
    refine Tl.All.cons (o := (⟨some 14, .call { callee := .value (.func 15), args := #[.tmp 11, .tmp 13], argTypes := #[3, 3] }, 3, "make.go:43", #[⟨1, .data⟩, ⟨3, .data⟩], none⟩ : Oper)) rfl (fun K hK => ?_) ?_
    · go_simp
      refine (H0.out _).mono ?_
      rintro e w3 ⟨rfl, rfl⟩
      dsimp only
      refine hK.out _ _ (HZ.out _ ((Held.refl w1).drew)) (fun hHeld => ?_)
      clear hK K
      try simp only [Act.put, Tl.p2, Tl.p3, Tl.p4]
      refine Tl.tf 5 (⟨some 15, .indexAddr 22 (.tmp 10) (.tmp 14), 0, "make.go:43", #[⟨0, .data⟩, ⟨4, .data⟩], none⟩ : Oper) ?v11 rfl ?hy11 (by assumption) ?_
      case hy11 => (intro w; go_simp; all_goals (with_reducible rfl))
      try simp only [Act.put, Tl.p2, Tl.p3, Tl.p4]
      refine Tl.tk 6 (⟨some 16, .load 3 (.tmp 15), 3, "make.go:43", #[⟨5, .data⟩], none⟩ : Oper) ?v12 rfl ?hy12 (by assumption) ?_
      case hy12 => (intro w hSw; (try dsimp only at hSw); go_simp; all_goals (with_reducible rfl))
      try simp only [Act.put, Tl.p2, Tl.p3, Tl.p4]
      refine Tl.many (rs := [9, 17]) (by kernel_rfl) (by simp) ?_
      refine Tl.All.cons (o := (⟨some 19, .call { callee := .value (.func 15), args := #[.tmp 18, .const (.int .i64 6)], argTypes := #[3, 3] }, 3, "make.go:43", #[⟨8, .data⟩, ⟨4, .chain⟩], none⟩ : Oper)) rfl (fun K hK => ?_) ?_
      · go_simp
        refine (H1.out _).mono ?_
        rintro e w3 ⟨rfl, rfl⟩
        dsimp only
        refine hK.out _ _ (HZ.out _ ((Held.refl w1).drew)) (fun hHeld => ?_)
        clear hK K
        try simp only [Act.put, Tl.p2, Tl.p3, Tl.p4]
        refine Tl.many (rs := [12, 17]) (by kernel_rfl) (by simp) ?_
        refine Tl.All.cons (o := (⟨some 22, .call { callee := .value (.func 15), args := #[.tmp 21, .const (.int .i64 6)], argTypes := #[3, 3] }, 3, "make.go:43", #[⟨11, .data⟩, ⟨9, .chain⟩], none⟩ : Oper)) rfl (fun K hK => ?_) ?_
        · go_simp
          refine (H2.out _).mono ?_
          rintro e w3 ⟨rfl, rfl⟩
          dsimp only
          refine hK.out _ _ (HZ.out _ ((Held.refl w1).drew)) (fun hHeld => ?_)
          clear hK K
          try simp only [Act.put, Tl.p2, Tl.p3, Tl.p4]
          refine Tl.many (rs := [15, 17]) (by kernel_rfl) (by simp) ?_
          refine Tl.All.cons (o := (⟨some 25, .call { callee := .value (.func 15), args := #[.tmp 24, .const (.int .i64 6)], argTypes := #[3, 3] }, 3, "make.go:43", #[⟨14, .data⟩, ⟨12, .chain⟩], none⟩ : Oper)) rfl (fun K hK => ?_) ?_
          · go_simp
            refine (H3.out _).mono ?_
            rintro e w3 ⟨rfl, rfl⟩
            dsimp only
            refine hK.out _ _ (HZ.out _ ((Held.refl w1).drew)) (fun hHeld => ?_)
            clear hK K
            try simp only [Act.put, Tl.p2, Tl.p3, Tl.p4]
            refine Tl.tf 16 (⟨some 26, .build 123 #[(0, .tmp 16), (1, .tmp 19), (2, .tmp 22), (3, .tmp 25)], 123, "make.go:43", #[⟨6, .data⟩, ⟨9, .data⟩, ⟨12, .data⟩, ⟨15, .data⟩], none⟩ : Oper) ?v13 rfl ?hy13 (by assumption) ?_
            case hy13 => (intro w; go_simp; all_goals (with_reducible rfl))
            try simp only [Act.put, Tl.p2, Tl.p3, Tl.p4]
            refine Tl.step (i := 17) (o := (⟨some 5, .alloc 123, 0, "make.go:43", #[], none⟩ : Oper)) (by kernel_rfl) rfl (fun K hK => ?_)
            go_simp
            refine hK.out _ _ (HZ.out _ (((Held.refl w1).alloc _).drew)) (fun hHeld => ?_)
            clear hK K
            try simp only [Act.put, Tl.p2, Tl.p3, Tl.p4]
            refine Tl.stepN (i := 18) (o := (⟨none, .store 123 (.tmp 5) (.tmp 26), 0, "make.go:43", #[⟨17, .data⟩, ⟨16, .data⟩, ⟨15, .chain⟩, ⟨0, .phase⟩, ⟨1, .phase⟩, ⟨2, .phase⟩, ⟨3, .phase⟩, ⟨4, .phase⟩, ⟨5, .phase⟩, ⟨6, .phase⟩, ⟨7, .phase⟩, ⟨8, .phase⟩, ⟨9, .phase⟩, ⟨10, .phase⟩, ⟨11, .phase⟩, ⟨12, .phase⟩, ⟨13, .phase⟩, ⟨14, .phase⟩, ⟨15, .phase⟩, ⟨16, .phase⟩, ⟨17, .phase⟩], none⟩ : Oper)) (by kernel_rfl) (by kernel_rfl) rfl (fun K hK => ?_)
            go_simp
            refine hK.out _ _ ?_
            clear hK K
            try simp only [Act.put, Tl.p2, Tl.p3, Tl.p4]
            refine Tl.done (by kernel_rfl) ?_ _
            go_wp2
            go_meet
            case rel => exact ⟨_, rfl, NEW.out⟩
          refine Tl.All.cons (o := (⟨some 5, .alloc 123, 0, "make.go:43", #[], none⟩ : Oper)) rfl (fun K hK => ?_) ?_
          · go_simp
            refine hK.out _ _ (HZ.out _ (((Held.refl w1).alloc _).drew)) (fun hHeld => ?_)
            clear hK K
            try simp only [Act.put, Tl.p2, Tl.p3, Tl.p4]
            refine Tl.step (i := 15) (o := (⟨some 25, .call { callee := .value (.func 15), args := #[.tmp 24, .const (.int .i64 6)], argTypes := #[3, 3] }, 3, "make.go:43", #[⟨14, .data⟩, ⟨12, .chain⟩], none⟩ : Oper)) (by kernel_rfl) rfl (fun K hK => ?_)
            go_simp
            refine (H3.out _).mono ?_
            rintro e w3 ⟨rfl, rfl⟩
            dsimp only
            refine hK.out _ _ (HZ.out _ (((Held.refl w1).alloc _).drew)) (fun hHeld => ?_)
            clear hK K
            try simp only [Act.put, Tl.p2, Tl.p3, Tl.p4]
            refine Tl.tf 16 (⟨some 26, .build 123 #[(0, .tmp 16), (1, .tmp 19), (2, .tmp 22), (3, .tmp 25)], 123, "make.go:43", #[⟨6, .data⟩, ⟨9, .data⟩, ⟨12, .data⟩, ⟨15, .data⟩], none⟩ : Oper) ?v14 rfl ?hy14 (by assumption) ?_
            case hy14 => (intro w; go_simp; all_goals (with_reducible rfl))
            try simp only [Act.put, Tl.p2, Tl.p3, Tl.p4]
            refine Tl.stepN (i := 18) (o := (⟨none, .store 123 (.tmp 5) (.tmp 26), 0, "make.go:43", #[⟨17, .data⟩, ⟨16, .data⟩, ⟨15, .chain⟩, ⟨0, .phase⟩, ⟨1, .phase⟩, ⟨2, .phase⟩, ⟨3, .phase⟩, ⟨4, .phase⟩, ⟨5, .phase⟩, ⟨6, .phase⟩, ⟨7, .phase⟩, ⟨8, .phase⟩, ⟨9, .phase⟩, ⟨10, .phase⟩, ⟨11, .phase⟩, ⟨12, .phase⟩, ⟨13, .phase⟩, ⟨14, .phase⟩, ⟨15, .phase⟩, ⟨16, .phase⟩, ⟨17, .phase⟩], none⟩ : Oper)) (by kernel_rfl) (by kernel_rfl) rfl (fun K hK => ?_)
            go_simp
            refine hK.out _ _ ?_
            clear hK K
            try simp only [Act.put, Tl.p2, Tl.p3, Tl.p4]
            refine Tl.done (by kernel_rfl) ?_ _
            go_wp2
            go_meet
            case rel => exact ⟨_, rfl, NEW.out⟩
          exact Tl.All.nil
        refine Tl.All.cons (o := (⟨some 5, .alloc 123, 0, "make.go:43", #[], none⟩ : Oper)) rfl (fun K hK => ?_) ?_
        · go_simp
          refine hK.out _ _ (HZ.out _ (((Held.refl w1).alloc _).drew)) (fun hHeld => ?_)
          clear hK K
          try simp only [Act.put, Tl.p2, Tl.p3, Tl.p4]
          refine Tl.step (i := 12) (o := (⟨some 22, .call { callee := .value (.func 15), args := #[.tmp 21, .const (.int .i64 6)], argTypes := #[3, 3] }, 3, "make.go:43", #[⟨11, .data⟩, ⟨9, .chain⟩], none⟩ : Oper)) (by kernel_rfl) rfl (fun K hK => ?_)
          go_simp
          refine (H2.out _).mono ?_
          rintro e w3 ⟨rfl, rfl⟩
          dsimp only
          refine hK.out _ _ (HZ.out _ (((Held.refl w1).alloc _).drew)) (fun hHeld => ?_)
          clear hK K
          try simp only [Act.put, Tl.p2, Tl.p3, Tl.p4]
          refine Tl.step (i := 15) (o := (⟨some 25, .call { callee := .value (.func 15), args := #[.tmp 24, .const (.int .i64 6)], argTypes := #[3, 3] }, 3, "make.go:43", #[⟨14, .data⟩, ⟨12, .chain⟩], none⟩ : Oper)) (by kernel_rfl) rfl (fun K hK => ?_)
          go_simp
          refine (H3.out _).mono ?_
          rintro e w3 ⟨rfl, rfl⟩
          dsimp only
          refine hK.out _ _ (HZ.out _ (((Held.refl w1).alloc _).drew)) (fun hHeld => ?_)
          clear hK K
          try simp only [Act.put, Tl.p2, Tl.p3, Tl.p4]
          refine Tl.tf 16 (⟨some 26, .build 123 #[(0, .tmp 16), (1, .tmp 19), (2, .tmp 22), (3, .tmp 25)], 123, "make.go:43", #[⟨6, .data⟩, ⟨9, .data⟩, ⟨12, .data⟩, ⟨15, .data⟩], none⟩ : Oper) ?v15 rfl ?hy15 (by assumption) ?_
          case hy15 => (intro w; go_simp; all_goals (with_reducible rfl))
          try simp only [Act.put, Tl.p2, Tl.p3, Tl.p4]
          refine Tl.stepN (i := 18) (o := (⟨none, .store 123 (.tmp 5) (.tmp 26), 0, "make.go:43", #[⟨17, .data⟩, ⟨16, .data⟩, ⟨15, .chain⟩, ⟨0, .phase⟩, ⟨1, .phase⟩, ⟨2, .phase⟩, ⟨3, .phase⟩, ⟨4, .phase⟩, ⟨5, .phase⟩, ⟨6, .phase⟩, ⟨7, .phase⟩, ⟨8, .phase⟩, ⟨9, .phase⟩, ⟨10, .phase⟩, ⟨11, .phase⟩, ⟨12, .phase⟩, ⟨13, .phase⟩, ⟨14, .phase⟩, ⟨15, .phase⟩, ⟨16, .phase⟩, ⟨17, .phase⟩], none⟩ : Oper)) (by kernel_rfl) (by kernel_rfl) rfl (fun K hK => ?_)
          go_simp
          refine hK.out _ _ ?_
          clear hK K
          try simp only [Act.put, Tl.p2, Tl.p3, Tl.p4]
          refine Tl.done (by kernel_rfl) ?_ _
          go_wp2
          go_meet
          case rel => exact ⟨_, rfl, NEW.out⟩
        exact Tl.All.nil
      refine Tl.All.cons (o := (⟨some 5, .alloc 123, 0, "make.go:43", #[], none⟩ : Oper)) rfl (fun K hK => ?_) ?_
      · go_simp
        refine hK.out _ _ (HZ.out _ (((Held.refl w1).alloc _).drew)) (fun hHeld => ?_)
        clear hK K
        try simp only [Act.put, Tl.p2, Tl.p3, Tl.p4]
        refine Tl.step (i := 9) (o := (⟨some 19, .call { callee := .value (.func 15), args := #[.tmp 18, .const (.int .i64 6)], argTypes := #[3, 3] }, 3, "make.go:43", #[⟨8, .data⟩, ⟨4, .chain⟩], none⟩ : Oper)) (by kernel_rfl) rfl (fun K hK => ?_)
        go_simp
        refine (H1.out _).mono ?_
        rintro e w3 ⟨rfl, rfl⟩
        dsimp only
        refine hK.out _ _ (HZ.out _ (((Held.refl w1).alloc _).drew)) (fun hHeld => ?_)
        clear hK K
        try simp only [Act.put, Tl.p2, Tl.p3, Tl.p4]
        refine Tl.step (i := 12) (o := (⟨some 22, .call { callee := .value (.func 15), args := #[.tmp 21, .const (.int .i64 6)], argTypes := #[3, 3] }, 3, "make.go:43", #[⟨11, .data⟩, ⟨9, .chain⟩], none⟩ : Oper)) (by kernel_rfl) rfl (fun K hK => ?_)
        go_simp
        refine (H2.out _).mono ?_
        rintro e w3 ⟨rfl, rfl⟩
        dsimp only
        refine hK.out _ _ (HZ.out _ (((Held.refl w1).alloc _).drew)) (fun hHeld => ?_)
        clear hK K
        try simp only [Act.put, Tl.p2, Tl.p3, Tl.p4]
        refine Tl.step (i := 15) (o := (⟨some 25, .call { callee := .value (.func 15), args := #[.tmp 24, .const (.int .i64 6)], argTypes := #[3, 3] }, 3, "make.go:43", #[⟨14, .data⟩, ⟨12, .chain⟩], none⟩ : Oper)) (by kernel_rfl) rfl (fun K hK => ?_)
        go_simp
        refine (H3.out _).mono ?_
        rintro e w3 ⟨rfl, rfl⟩
        dsimp only
        refine hK.out _ _ (HZ.out _ (((Held.refl w1).alloc _).drew)) (fun hHeld => ?_)
        clear hK K
        try simp only [Act.put, Tl.p2, Tl.p3, Tl.p4]
        refine Tl.tf 16 (⟨some 26, .build 123 #[(0, .tmp 16), (1, .tmp 19), (2, .tmp 22), (3, .tmp 25)], 123, "make.go:43", #[⟨6, .data⟩, ⟨9, .data⟩, ⟨12, .data⟩, ⟨15, .data⟩], none⟩ : Oper) ?v16 rfl ?hy16 (by assumption) ?_
        case hy16 => (intro w; go_simp; all_goals (with_reducible rfl))
        try simp only [Act.put, Tl.p2, Tl.p3, Tl.p4]
        refine Tl.stepN (i := 18) (o := (⟨none, .store 123 (.tmp 5) (.tmp 26), 0, "make.go:43", #[⟨17, .data⟩, ⟨16, .data⟩, ⟨15, .chain⟩, ⟨0, .phase⟩, ⟨1, .phase⟩, ⟨2, .phase⟩, ⟨3, .phase⟩, ⟨4, .phase⟩, ⟨5, .phase⟩, ⟨6, .phase⟩, ⟨7, .phase⟩, ⟨8, .phase⟩, ⟨9, .phase⟩, ⟨10, .phase⟩, ⟨11, .phase⟩, ⟨12, .phase⟩, ⟨13, .phase⟩, ⟨14, .phase⟩, ⟨15, .phase⟩, ⟨16, .phase⟩, ⟨17, .phase⟩], none⟩ : Oper)) (by kernel_rfl) (by kernel_rfl) rfl (fun K hK => ?_)
        go_simp
        refine hK.out _ _ ?_
        clear hK K
        try simp only [Act.put, Tl.p2, Tl.p3, Tl.p4]
        refine Tl.done (by kernel_rfl) ?_ _
        go_wp2
        go_meet
        case rel => exact ⟨_, rfl, NEW.out⟩
      exact Tl.All.nil
    refine Tl.All.cons (o := (⟨some 5, .alloc 123, 0, "make.go:43", #[], none⟩ : Oper)) rfl (fun K hK => ?_) ?_
    · go_simp
      refine hK.out _ _ (HZ.out _ (((Held.refl w1).alloc _).drew)) (fun hHeld => ?_)
      clear hK K
      try simp only [Act.put, Tl.p2, Tl.p3, Tl.p4]
      refine Tl.step (i := 4) (o := (⟨some 14, .call { callee := .value (.func 15), args := #[.tmp 11, .tmp 13], argTypes := #[3, 3] }, 3, "make.go:43", #[⟨1, .data⟩, ⟨3, .data⟩], none⟩ : Oper)) (by kernel_rfl) rfl (fun K hK => ?_)
      go_simp
      refine (H0.out _).mono ?_
      rintro e w3 ⟨rfl, rfl⟩
      dsimp only
      refine hK.out _ _ (HZ.out _ (((Held.refl w1).alloc _).drew)) (fun hHeld => ?_)
      clear hK K
      try simp only [Act.put, Tl.p2, Tl.p3, Tl.p4]
      refine Tl.tf 5 (⟨some 15, .indexAddr 22 (.tmp 10) (.tmp 14), 0, "make.go:43", #[⟨0, .data⟩, ⟨4, .data⟩], none⟩ : Oper) ?v17 rfl ?hy17 (by assumption) ?_
      case hy17 => (intro w; go_simp; all_goals (with_reducible rfl))
      try simp only [Act.put, Tl.p2, Tl.p3, Tl.p4]
      refine Tl.tk 6 (⟨some 16, .load 3 (.tmp 15), 3, "make.go:43", #[⟨5, .data⟩], none⟩ : Oper) ?v18 rfl ?hy18 (by assumption) ?_
      case hy18 => (intro w hSw; (try dsimp only at hSw); go_simp; all_goals (with_reducible rfl))
      try simp only [Act.put, Tl.p2, Tl.p3, Tl.p4]
      refine Tl.step (i := 9) (o := (⟨some 19, .call { callee := .value (.func 15), args := #[.tmp 18, .const (.int .i64 6)], argTypes := #[3, 3] }, 3, "make.go:43", #[⟨8, .data⟩, ⟨4, .chain⟩], none⟩ : Oper)) (by kernel_rfl) rfl (fun K hK => ?_)
      go_simp
      refine (H1.out _).mono ?_
      rintro e w3 ⟨rfl, rfl⟩
      dsimp only
      refine hK.out _ _ (HZ.out _ (((Held.refl w1).alloc _).drew)) (fun hHeld => ?_)
      clear hK K
      try simp only [Act.put, Tl.p2, Tl.p3, Tl.p4]
      refine Tl.step (i := 12) (o := (⟨some 22, .call { callee := .value (.func 15), args := #[.tmp 21, .const (.int .i64 6)], argTypes := #[3, 3] }, 3, "make.go:43", #[⟨11, .data⟩, ⟨9, .chain⟩], none⟩ : Oper)) (by kernel_rfl) rfl (fun K hK => ?_)
      go_simp
      refine (H2.out _).mono ?_
      rintro e w3 ⟨rfl, rfl⟩
      dsimp only
      refine hK.out _ _ (HZ.out _ (((Held.refl w1).alloc _).drew)) (fun hHeld => ?_)
      clear hK K
      try simp only [Act.put, Tl.p2, Tl.p3, Tl.p4]
      refine Tl.step (i := 15) (o := (⟨some 25, .call { callee := .value (.func 15), args := #[.tmp 24, .const (.int .i64 6)], argTypes := #[3, 3] }, 3, "make.go:43", #[⟨14, .data⟩, ⟨12, .chain⟩], none⟩ : Oper)) (by kernel_rfl) rfl (fun K hK => ?_)
      go_simp
      refine (H3.out _).mono ?_
      rintro e w3 ⟨rfl, rfl⟩
      dsimp only
      refine hK.out _ _ (HZ.out _ (((Held.refl w1).alloc _).drew)) (fun hHeld => ?_)
      clear hK K
      try simp only [Act.put, Tl.p2, Tl.p3, Tl.p4]
      refine Tl.tf 16 (⟨some 26, .build 123 #[(0, .tmp 16), (1, .tmp 19), (2, .tmp 22), (3, .tmp 25)], 123, "make.go:43", #[⟨6, .data⟩, ⟨9, .data⟩, ⟨12, .data⟩, ⟨15, .data⟩], none⟩ : Oper) ?v19 rfl ?hy19 (by assumption) ?_
      case hy19 => (intro w; go_simp; all_goals (with_reducible rfl))
      try simp only [Act.put, Tl.p2, Tl.p3, Tl.p4]
      refine Tl.stepN (i := 18) (o := (⟨none, .store 123 (.tmp 5) (.tmp 26), 0, "make.go:43", #[⟨17, .data⟩, ⟨16, .data⟩, ⟨15, .chain⟩, ⟨0, .phase⟩, ⟨1, .phase⟩, ⟨2, .phase⟩, ⟨3, .phase⟩, ⟨4, .phase⟩, ⟨5, .phase⟩, ⟨6, .phase⟩, ⟨7, .phase⟩, ⟨8, .phase⟩, ⟨9, .phase⟩, ⟨10, .phase⟩, ⟨11, .phase⟩, ⟨12, .phase⟩, ⟨13, .phase⟩, ⟨14, .phase⟩, ⟨15, .phase⟩, ⟨16, .phase⟩, ⟨17, .phase⟩], none⟩ : Oper)) (by kernel_rfl) (by kernel_rfl) rfl (fun K hK => ?_)
      go_simp
      refine hK.out _ _ ?_
      clear hK K
      try simp only [Act.put, Tl.p2, Tl.p3, Tl.p4]
      refine Tl.done (by kernel_rfl) ?_ _
      go_wp2
      go_meet
      case rel => exact ⟨_, rfl, NEW.out⟩
    exact Tl.All.nil
  case rest =>
    obtain ⟨b5, rfl, hM⟩ := hcut
    have M5 := Lib.hid hM
    clear hM HZ hz M1 M0 HOP HM
    go_wp2_with fail
    refine (H4.out _).mono ?_
    rintro e w3 ⟨rfl, rfl⟩
    obtain ⟨⟨x0, x1, x2, x3, x4⟩, ⟨f0, f1, f2, f3, f4⟩, _⟩ := M5.out.box5 0 rfl
    have z1 : (1 : Int) ≤ z := by omega
    have z2 : (z : Int) ≤ 64 := by omega
    have q4 : (0 : Int) ≤ r4 := by omega
    have q4' : (r4 : Int) < 24 := by omega
    clear H0 H1 H2 H3 H4
    go_upto_block 0 with fail
    go_cut [] (fun wx => ∃ (a b c : Nat) (i : Int), (-2147483648 ≤ i ∧ i ≤ 2147483647) ∧ Mem w wx [.box b5 #[.int .i64 (z : Int), .int .i64 (a : Int), .int .i64 (b : Int), .int .i64 (c : Int), .int .i32 i] 123, .box w.heap.size #[.int .i64 0, .int .i64 0, .int .i64 0, .int .i64 0, .int .i32 0] 123])
    case first =>

      by_cases y0 : (1 : Int) ≤ z ∧ (z : Int) ≤ 13
      · have k0 : (z : Int) ≤ 13 := by omega
        go_wp2
        go_meet
        case rel => exact ⟨r1, r2, r3, 0, ⟨by decide, by decide⟩, M5.out⟩
      by_cases y0 : (z : Int) = 16
      · obtain rfl : z = 16 := by omega
        go_wp2
        go_meet
        case rel => exact ⟨r1, r2, 0, (8 * (r4 : Int) - 32), ⟨by omega, by omega⟩, ((M5.out.put 0 rfl 3 (.int .i64 0)).put 0 rfl 4 (.int .i32 (8 * (r4 : Int) - 32)))⟩
      by_cases y0 : (17 : Int) ≤ z ∧ (z : Int) ≤ 22
      · obtain ⟨k0, k1, k2, k3, k4, k5, k6, k7, k8, k9, k10, k11⟩ : ¬ (z : Int) ≤ 13 ∧ ¬ (40 : Int) ≤ z ∧ (z : Int) ≤ 48 ∧ ¬ (z : Int) = 48 ∧ ¬ (z : Int) = 16 ∧ ¬ (z : Int) = 23 ∧ ¬ (32 : Int) ≤ z ∧ (z : Int) ≤ 36 ∧ ¬ (z : Int) = 49 ∧ ¬ (z : Int) = 24 ∧ (17 : Int) ≤ z ∧ (z : Int) ≤ 22 := by omega
        have m3 := nb k3
        have m4 := nb k4
        have m5 := nb k5
        have m8 := nb k8
        have m9 := nb k9
        go_wp2
        go_meet
        case rel => exact ⟨r1, r2, 0, (r4 : Int), ⟨by omega, by omega⟩, ((M5.out.put 0 rfl 3 (.int .i64 0)).put 0 rfl 4 (.int .i32 (r4 : Int)))⟩
      by_cases y0 : (z : Int) = 23
      · obtain rfl : z = 23 := by omega
        go_wp2
        go_meet
        case rel => exact ⟨r1, r2, 0, (8 * (r4 : Int) - 32), ⟨by omega, by omega⟩, ((M5.out.put 0 rfl 3 (.int .i64 0)).put 0 rfl 4 (.int .i32 (8 * (r4 : Int) - 32)))⟩
      by_cases y0 : (z : Int) = 24
      · obtain rfl : z = 24 := by omega
        go_wp2
        go_meet
        case rel => exact ⟨r1, 0, 0, (wrap32 (wrap64 ((r4 : Int) * bits .and .i64 ((v : Int) / 1099511627776) 1))), (Rw.bd_i32 (RowKit.wrap32_wf _)), (((M5.out.put 0 rfl 2 (.int .i64 0)).put 0 rfl 3 (.int .i64 0)).put 0 rfl 4 (.int .i32 (wrap32 (wrap64 ((r4 : Int) * bits .and .i64 ((v : Int) / 1099511627776) 1)))))⟩
      by_cases y0 : (32 : Int) ≤ z ∧ (z : Int) ≤ 36
      · obtain ⟨k0, k1, k2, k3, k4, k5, k6, k7⟩ : ¬ (z : Int) ≤ 13 ∧ ¬ (40 : Int) ≤ z ∧ (z : Int) ≤ 48 ∧ ¬ (z : Int) = 48 ∧ ¬ (z : Int) = 16 ∧ ¬ (z : Int) = 23 ∧ (32 : Int) ≤ z ∧ (z : Int) ≤ 36 := by omega
        have m3 := nb k3
        have m4 := nb k4
        have m5 := nb k5
        go_wp2
        go_meet
        case rel => exact ⟨r1, r2, 0, (8 * (r4 : Int) - 32), ⟨by omega, by omega⟩, ((M5.out.put 0 rfl 3 (.int .i64 0)).put 0 rfl 4 (.int .i32 (8 * (r4 : Int) - 32)))⟩
      by_cases y0 : (40 : Int) ≤ z ∧ (z : Int) ≤ 47
      · obtain ⟨k0, k1, k2, k3⟩ : ¬ (z : Int) ≤ 13 ∧ (40 : Int) ≤ z ∧ (z : Int) ≤ 48 ∧ ¬ (z : Int) = 48 := by omega
        have m3 := nb k3
        go_wp2
        go_meet
        case rel => exact ⟨r1, r2, 0, ((r4 : Int) - 12), ⟨by omega, by omega⟩, ((M5.out.put 0 rfl 3 (.int .i64 0)).put 0 rfl 4 (.int .i32 ((r4 : Int) - 12)))⟩
      by_cases y0 : (z : Int) = 48
      · obtain rfl : z = 48 := by omega
        go_wp2
        go_meet
        case rel => exact ⟨r1, 0, 0, ((r4 : Int) - 12), ⟨by omega, by omega⟩, (((M5.out.put 0 rfl 3 (.int .i64 0)).put 0 rfl 4 (.int .i32 ((r4 : Int) - 12))).put 0 rfl 2 (.int .i64 0))⟩
      by_cases y0 : (z : Int) = 49
      · obtain rfl : z = 49 := by omega
        go_wp2
        go_meet
        case rel => exact ⟨r1, r2, 0, (8 * (r4 : Int) - 32), ⟨by omega, by omega⟩, ((M5.out.put 0 rfl 3 (.int .i64 0)).put 0 rfl 4 (.int .i32 (8 * (r4 : Int) - 32)))⟩
      by_cases y0 : (z : Int) = 58
      · obtain rfl : z = 58 := by omega
        go_wp2
        go_meet
        case rel => exact ⟨r1, 0, 0, ((r4 : Int) % 8), ⟨by omega, by omega⟩, (((M5.out.put 0 rfl 2 (.int .i64 0)).put 0 rfl 3 (.int .i64 0)).put 0 rfl 4 (.int .i32 ((r4 : Int) % 8)))⟩
      by_cases y0 : (z : Int) = 59
      · obtain rfl : z = 59 := by omega
        go_wp2
        go_meet
        case rel => exact ⟨r1, 0, 0, ((r4 : Int) % 8), ⟨by omega, by omega⟩, (((M5.out.put 0 rfl 2 (.int .i64 0)).put 0 rfl 3 (.int .i64 0)).put 0 rfl 4 (.int .i32 ((r4 : Int) % 8)))⟩
      by_cases y0 : (z : Int) = 60
      · obtain rfl : z = 60 := by omega
        go_wp2
        go_meet
        case rel => exact ⟨r1, 0, 0, ((r4 : Int) % 12), ⟨by omega, by omega⟩, (((M5.out.put 0 rfl 2 (.int .i64 0)).put 0 rfl 3 (.int .i64 0)).put 0 rfl 4 (.int .i32 ((r4 : Int) % 12)))⟩
      by_cases y0 : (z : Int) = 61
      · obtain rfl : z = 61 := by omega
        go_wp2
        go_meet
        case rel => exact ⟨r1, 0, 0, ((r4 : Int) % 12), ⟨by omega, by omega⟩, (((M5.out.put 0 rfl 2 (.int .i64 0)).put 0 rfl 3 (.int .i64 0)).put 0 rfl 4 (.int .i32 ((r4 : Int) % 12)))⟩
      obtain ⟨k0, k1, k2, k3, k4, k5, k6, k7, k8, k9, k10, k11, k12, k13, k14, k15⟩ : ¬ (z : Int) ≤ 13 ∧ (40 : Int) ≤ z ∧ ¬ (z : Int) ≤ 48 ∧ ¬ (z : Int) = 48 ∧ ¬ (z : Int) = 16 ∧ ¬ (z : Int) = 23 ∧ (32 : Int) ≤ z ∧ ¬ (z : Int) ≤ 36 ∧ ¬ (z : Int) = 49 ∧ ¬ (z : Int) = 24 ∧ (17 : Int) ≤ z ∧ ¬ (z : Int) ≤ 22 ∧ ¬ (z : Int) = 58 ∧ ¬ (z : Int) = 59 ∧ ¬ (z : Int) = 60 ∧ ¬ (z : Int) = 61 := by omega
      have m3 := nb k3
      have m4 := nb k4
      have m5 := nb k5
      have m8 := nb k8
      have m9 := nb k9
      have m12 := nb k12
      have m13 := nb k13
      have m14 := nb k14
      have m15 := nb k15
      go_wp2
      go_meet
      case rel => exact ⟨0, 0, 0, 0, ⟨by decide, by decide⟩, (((M5.out.put 0 rfl 1 (.int .i64 0)).put 0 rfl 2 (.int .i64 0)).put 0 rfl 3 (.int .i64 0))⟩
    case rest =>
      obtain ⟨a, b, c, i, hi, hM⟩ := hcut
      have M7 := Lib.hid hM
      clear hM M5 x0 x1 x2 x3 x4 f0 f1 f2 f3 f4
      go_wp2_with (first | (show wpList _ _ _ ((⟨_, Op.load 123 _, _, _, _, _⟩ : Oper) :: _) _ _; refine Mem.go_loadAll 123 rfl rfl rfl 0 M7.out rfl uIns sIns ?_) | (show wpList _ _ _ ((⟨_, Op.store 123 _ _, _, _, _, _⟩ : Oper) :: _) _ _; refine Mem.go_storeAll 123 rfl rfl rfl rfl 1 M7.out rfl sIns rfl (ins_one _ _ _ _ _) ?_; intro w6 MM'; (try simp only [List.set_cons_zero, List.set_cons_succ] at MM'); have M6 := Lib.hid MM'; clear MM'))
      refine bodyPost_ret (Bx.res_c Tryz.results57 rfl (load_ins rfl (M6.out.blk 1 rfl))) rfl ?_
      exact ⟨z, a, b, c, i, rfl, hi, M6.out.held⟩
end Ma
end Go.Proofs.YtdacgdokbfcgdaaGreat

namespace Go.Proofs.YtdacgdokbfcgdaaGreat
open Go.RowKit Go.BigFrame Go.Sort Go.Lib
namespace Ma
theorem wds_snoc {L : List Int} {x : Int} (h : Wds L) (hx : Wd x) : Wds (L ++ [x]) := by
  intro z hz
  rcases List.mem_append.1 hz with hz | hz
  · exact h z hz
  · rw [List.mem_singleton] at hz; subst hz; exact hx
def CodeTo (n : Nat) (w : World) (e : Ending) (w' : World) : Prop := ∃ (A : Option Addr) (cap : Nat) (L : List Int), e = .returned (.slice A n cap) ∧ L.length = n ∧ Wds L ∧ Own 40 1 uC w.heap.size w' (.slice A n cap) L ∧ Held w w'
set_option maxHeartbeats 4000000 in
theorem code_any (A : Option Addr) (n cap : Nat) (L : List Int) (w : World) (h : Sl 1 nC w A n L) (hn : n ≤ 40) : Calls Tryz.prog 37 #[.slice A n cap] w (CodeTo n w) := by
  have HL := Lib.hid h
  have HI := Lib.hid fun z w => inst_any z w
  have R0 := Lib.hid ((Mem.start w).nilRow (e := 40) (s := 1) (f := uC))
  unfold InsTo at HI
  clear h
  go_enter Tryz.func37, Tryz.ntmps37
  go_wp2
  go_loopw [3, 4] (fun v3 v4 wr => ∃ (q : Nat) (L1 : List Int), v4 = .int .i64 (q : Int) ∧ q ≤ n ∧ L1.length = q ∧ Wds L1 ∧ Mem w wr [.row 40 1 uC w.heap.size v3 L1]) (fun _ i _ => n - (RowKit.intOf i).toNat)
  case atStart => exact ⟨0, [], rfl, Nat.zero_le _, rfl, (fun z hz => by cases hz), R0.out⟩
  case round =>
    clear R0
    obtain ⟨q, L1, rfl, hq, hl1, hw1, hM⟩ := hrel
    obtain ⟨A3, cap3, rfl, hcap3, _⟩ := (hM.row 0 rfl).shape
    rw [hl1] at hM hcap3 ⊢
    have HN1 : Is L1.length q := ⟨hl1⟩
    have M := Lib.hid hM
    have HW := Lib.hid hw1
    clear hM hw1 hl1
    by_cases hlt : q < n
    · have y1 : (q : Int) < n := by omega
      have y2 : (0 : Int) ≤ q := by omega
      have hb1 : (q + 1) * 4 ≤ 140737488355328 := by omega
      obtain ⟨lb, loff, z, rfl, hlb, hz, hc⟩ := HL.out.at_ (Held.refl w) (k := q) hlt
      have x0 := hc 0 _ rfl
      rw [Nat.mul_one, Nat.add_zero] at x0
      replace x0 := M.out.held.cell x0
      have hlb2 : lb < wr.heap.size := Nat.lt_of_lt_of_le hlb M.out.le
      have hlb3 : ¬ lb = wr.heap.size := by omega
      clear hc hz hlb
      obtain ⟨m, hm⟩ : ∃ m, z.tmod 17 = m := ⟨_, rfl⟩
      have hm1 : m ≤ 16 := by have := Int.tmod_lt_of_pos z (by decide : (0 : Int) < 17); omega
      have hm2 : -16 ≤ m := by have := Int.lt_tmod_of_pos z (by decide : (0 : Int) < 17); omega
      obtain ⟨X, hX⟩ : ∃ X, IntKind.u32.wrap (bits .and .i64 z 4294967295) = X := ⟨_, rfl⟩
      have hXw : Hid (Wd X) := Lib.hid (hX ▸ wd_wrap _)
      by_cases hm0 : m = 0
      · subst hm0
        clear hm1 hm2
        have M2 := Lib.hid (M.out.alloc #[.int .u32 X] 40)
        go_wp2_with (at_builtin; refine Mem.wp_app M2.out 0 rfl rfl _ _ _ rfl _ 4 Tryz.underlying45 info_u32 rfl (by decide) uC_len uC_one X ⟨wr.heap.size, 0, none⟩ 1 rfl rfl (cells_new _ rfl _ _) q HN1.out hb1 (by decide) ?_; intro g4 cp4 w4 M4'; have M4 := Lib.hid M4'; clear M4')
        go_roundw
        case rel => exact ⟨q + 1, L1 ++ [X], by go_num, by omega, by rw [List.length_append, HN1.out, List.length_singleton], wds_snoc HW.out hXw.out, M4.out.pick [0] (by decide) rfl⟩
        case measure => (simp [RowKit.intOf]) <;> omega
      · clear hX hXw
        have hm0' : ¬ (m : Int) = 0 := hm0
        go_wp2_with fail
        refine (HI.out _ _).mono ?_
        rintro e w3 ⟨op, a, b, c, i, rfl, hi, h3⟩
        have M3 := Lib.hid (M.out.keep h3)
        have HE := Lib.hid fun w => As.encode_ins op a b c i w hi
        unfold As.EncTo at HE
        dsimp only
        go_wp2_with fail
        refine (HE.out _).mono ?_
        rintro e w4 ⟨v, rfl, hv, _, h4⟩
        have M4 := Lib.hid (M3.out.keep h4)
        have M5 := Lib.hid (M4.out.alloc #[.int .u32 (v : Int)] 40)
        have HV := Lib.hid hv
        clear hv M3 HE h3 h4 x0 hlb2 hlb3
        go_wp2_with (at_builtin; refine Mem.wp_app M5.out 0 rfl rfl _ _ _ rfl _ 4 Tryz.underlying45 info_u32 rfl (by decide) uC_len uC_one (v : Int) ⟨w4.heap.size, 0, none⟩ 1 rfl rfl (cells_new _ rfl _ _) q HN1.out hb1 (by decide) ?_; intro g4 cp4 w5 M6'; have M6 := Lib.hid M6'; clear M6')
        go_roundw
        case rel => exact ⟨q + 1, L1 ++ [(v : Int)], by go_num, by omega, by rw [List.length_append, HN1.out, List.length_singleton], wds_snoc HW.out ⟨by omega, by have := HV.out; omega⟩, M6.out.pick [0] (by decide) rfl⟩
        case measure => (simp [RowKit.intOf]) <;> omega
    · obtain rfl : q = n := by omega
      have y1 : ¬ (q : Int) < q := by omega
      go_wp2
      go_ret
      exact ⟨A3, cap3, L1, rfl, HN1.out, HW.out, M.out.row 0 rfl, M.out.held⟩
end Ma
end Go.Proofs.YtdacgdokbfcgdaaGreat

namespace Go.Proofs.YtdacgdokbfcgdaaGreat
open Go.RowKit Go.BigFrame Go.Lib
namespace As
/-- The tokens from a place on. -/
def TokAt (s : ByteArray) (q : Nat) (g : Bool) (R : List Tok) : Prop := ∃ n, toks n g (s.data.toList.drop q) = some R
theorem tokAt_end {s : ByteArray} {q : Nat} {g : Bool} {R : List Tok} (h : TokAt s q g R) (hq : q = s.size) : R = [] := by
  obtain ⟨n, h⟩ := h
  rw [List.drop_of_length_le (by rw [len_b]; omega)] at h
  cases n <;> simpa [toks] using h.symm
/-- What stands at a place. -/
theorem tokAt_at {s : ByteArray} {q : Nat} {g : Bool} {R : List Tok} (h : TokAt s q g R) (hq : q < s.size) :
    (s[q] = 32 ∧ TokAt s (q + 1) true R) ∨
    (s[q] ≠ 32 ∧ isL s[q] = true ∧ ∃ R', R = ⟨1, s[q] :: (s.data.toList.drop (q + 1)).takeWhile isW, g⟩ :: R' ∧ ∃ n, toks n false ((s.data.toList.drop (q + 1)).dropWhile isW) = some R') ∨
    (s[q] ≠ 32 ∧ isL s[q] = false ∧ (isD s[q] || decide (s[q] = 45)) = true ∧ ∃ R', R = ⟨2, s[q] :: (s.data.toList.drop (q + 1)).takeWhile isW, g⟩ :: R' ∧ ∃ n, toks n false ((s.data.toList.drop (q + 1)).dropWhile isW) = some R') ∨
    (s[q] ≠ 32 ∧ isL s[q] = false ∧ (isD s[q] || decide (s[q] = 45)) = false ∧ isS s[q] = true ∧ ∃ R', R = ⟨3, [s[q]], g⟩ :: R' ∧ TokAt s (q + 1) false R') := by
  obtain ⟨n, h⟩ := h
  rw [By.drop_at s q hq] at h
  cases n with
  | zero => cases h
  | succ n =>
    rw [toks] at h
    split at h
    · rename_i hc; exact .inl ⟨hc, n, h⟩
    · rename_i hc
      split at h
      · rename_i hl
        obtain ⟨R', hR, rfl⟩ := Option.map_eq_some_iff.1 h
        exact .inr (.inl ⟨hc, hl, R', rfl, n, hR⟩)
      · rename_i hl
        have hl : isL s[q] = false := by simpa using hl
        split at h
        · rename_i hd
          obtain ⟨R', hR, rfl⟩ := Option.map_eq_some_iff.1 h
          exact .inr (.inr (.inl ⟨hc, hl, hd, R', rfl, n, hR⟩))
        · rename_i hd
          have hd : (isD s[q] || decide (s[q] = 45)) = false := by simpa using hd
          split at h
          · rename_i hs
            obtain ⟨R', hR, rfl⟩ := Option.map_eq_some_iff.1 h
            exact .inr (.inr (.inr ⟨hc, hl, hd, hs, R', rfl, n, hR⟩))
          · cases h
/-- A word is read on: what was read of it, where it ends. -/
theorem word_end {s : ByteArray} {f j : Nat} (hf : f ≤ j) (hj : j ≤ s.size) (hall : ∀ k (h : k < s.size), f ≤ k → k < j → isW s[k] = true) (hstop : ∀ h : j < s.size, isW s[j] = false) :
    (s.data.toList.drop f).takeWhile isW = (s.data.toList.drop f).take (j - f) ∧ (s.data.toList.drop f).dropWhile isW = s.data.toList.drop j := by
  induction hn : j - f generalizing f with
  | zero =>
    obtain rfl : f = j := by omega
    by_cases h : f < s.size
    · have := hstop h
      rw [By.drop_at s f h]
      simp [this]
    · rw [List.drop_of_length_le (by rw [len_b]; omega)]; simp
  | succ n ih =>
    have hfs : f < s.size := by omega
    have h1 := hall f hfs (Nat.le_refl _) (by omega)
    obtain ⟨i1, i2⟩ := ih (f := f + 1) (by omega) (fun k h a b => hall k h (by omega) b) (by omega)
    rw [By.drop_at s f hfs, List.takeWhile_cons, List.dropWhile_cons, h1]
    simp only [if_true, List.take_succ_cons]
    exact ⟨by rw [i1], i2⟩
def tokC (x : Tok) : List Value := [.int .i64 (x.k : Int), .string ⟨x.t.toArray⟩, .bool x.g]
theorem tokC_len (x : Tok) : (tokC x).length = 3 := rfl
theorem tokC_one (x : Tok) : ∀ u ∈ tokC x, u.oneCell' = true := by intro u hu; simp [tokC] at hu; rcases hu with rfl | rfl | rfl <;> rfl
end As
end Go.Proofs.YtdacgdokbfcgdaaGreat

namespace Go.Proofs.YtdacgdokbfcgdaaGreat
open Go.RowKit Go.BigFrame Go.Lib
namespace As
theorem info_tok : (Tryz.prog.info? 190).map (fun i => (i.zero, i.size, i.bytes)) = some (some (.agg #[.int .i64 0, .string ⟨#[]⟩, .bool false]), 3, 32) := by kernel_rfl
theorem ext_take (s : ByteArray) (f j : Nat) : s.extract f j = ⟨((s.data.toList.drop f).take (j - f)).toArray⟩ := by
  apply ByteArray.ext
  apply Array.ext'
  simp [ByteArray.data_extract, Array.toList_extract, List.extract_eq_take_drop]
def TokTo (L : List Tok) (w : World) (e : Ending) (w' : World) : Prop := ∃ A n cap, e = .returned (.tuple #[.slice A n cap, .bool true]) ∧ Own 190 3 tokC w.heap.size w' (.slice A n cap) L ∧ Held w w'
set_option maxHeartbeats 8000000 in
theorem tokens_any (s : ByteArray) (L : List Tok) (hs : s.size ≤ 8192) (h : tokens s.data.toList = some L) (w : World) : Calls Tryz.prog 105 #[.string s] w (TokTo L w) := by
  have HT0 : Hid (TokAt s 0 true L) := ⟨_, h⟩
  clear h
  have M0 := Lib.hid ((Mem.start w).nilRow (e := 190) (s := 3) (f := tokC))
  go_enter Tryz.func105, Tryz.ntmps105
  go_wp2
  go_loopw [4, 5, 6] (fun v g i wr => ∃ (q : Nat) (gb : Bool) (L1 R : List Tok), g = .bool gb ∧ i = .int .i64 (q : Int) ∧ q ≤ s.size ∧ L1.length ≤ q ∧ TokAt s q gb R ∧ L = L1 ++ R ∧ Mem w wr [.row 190 3 tokC w.heap.size v L1]) (fun _ _ i _ => s.size - (RowKit.intOf i).toNat)
  case atStart => exact ⟨0, true, [], L, rfl, rfl, Nat.zero_le _, Nat.le_refl _, HT0.out, rfl, M0.out⟩
  case round =>
    clear M0 HT0
    obtain ⟨q, gb, L1, R, rfl, rfl, hq, hl1, ht, hL, hM⟩ := hrel
    obtain ⟨A2, cap2, rfl, hcap2, _⟩ := (hM.row 0 rfl).shape
    obtain ⟨n1, hn1⟩ : ∃ n1, L1.length = n1 := ⟨_, rfl⟩
    have HN1 : Is L1.length n1 := ⟨hn1⟩
    rw [hn1] at hM hl1 hcap2 ⊢
    have HT := Lib.hid ht
    have HL := Lib.hid hL
    have M := Lib.hid hM
    clear hn1 ht hL hM
    by_cases hlt : q < s.size
    · have y1 : (q : Int) < s.size := by omega
      have y2 : (0 : Int) ≤ q := by omega
      have ix := By.idx s (q : Int) q rfl hlt
      have HC := Lib.hid (tokAt_at HT.out hlt)
      obtain ⟨c, hcs⟩ : ∃ c, s[q] = c := ⟨_, rfl⟩
      rw [hcs] at HC ix
      clear HT
      rcases HC.out with ⟨h1, h2⟩ | ⟨h1, h2, R', h3, h4⟩ | ⟨h1, h2, h3, R', h4, h5⟩ | ⟨h1, h2, h3, h4, R', h5, h6⟩
      · have H2 := Lib.hid h2
        subst h1
        clear h2 HC
        have e1 : (((32 : UInt8).toNat : Int) == 32) = true := rfl
        go_wp2
        go_roundw
        case rel => exact ⟨q + 1, true, L1, R, rfl, by go_num, by omega, by rw [HN1.out]; omega, H2.out, HL.out, M.out⟩
        case measure => (simp [RowKit.intOf]) <;> omega
      · have H4 := Lib.hid h4
        have HWc : Is (isW c) true := ⟨by unfold isW; rw [h2]; rfl⟩
        have HCS : Is (s[q]'hlt) c := ⟨hcs⟩
        have HLt := Lib.hid fun w => letter_any c w
        rw [h2] at HLt
        have e32 : ((c.toNat : Int) == 32) = false := by
          rw [beq_eq_false_iff_ne]
          intro e
          exact h1 (UInt8.toNat_inj.1 (by have : c.toNat = 32 := by omega
                                          exact this))
        subst h3
        obtain ⟨wA, rfl⟩ : ∃ wA : World, wA = wr := ⟨_, rfl⟩
        clear h4 h1 h2 HC hcs
        go_wp2_with fail
        refine (HLt.out _).mono ?_
        rintro e w3 ⟨rfl, rfl⟩
        go_wp2
        go_loopw [6] (fun i wr' => ∃ j : Nat, i = .int .i64 (j : Int) ∧ q ≤ j ∧ j ≤ s.size ∧ (∀ k (h : k < s.size), q ≤ k → k < j → isW s[k] = true) ∧ wr' = wA) (fun i _ => s.size - (RowKit.intOf i).toNat)
        case atStart => exact ⟨q, rfl, Nat.le_refl _, hq, fun k h a b => by omega, rfl⟩
        case round =>
          obtain ⟨j, rfl, hqj, hj, hall, rfl⟩ := hrel
          have HALL := Lib.hid hall
          clear hall
          by_cases hjl : j < s.size
          · have x1 : (j : Int) < s.size := by omega
            have x2 : (0 : Int) ≤ j := by omega
            have ij := By.idx s (j : Int) j rfl hjl
            obtain ⟨d, hd⟩ : ∃ d, s[j] = d := ⟨_, rfl⟩
            rw [hd] at ij
            have HLd := Lib.hid fun w => letter_any d w
            have HDd := Lib.hid fun w => digit_any d w
            by_cases l1 : isL d = true
            · rw [l1] at HLd
              have HALL2 := Lib.hid (show ∀ k (h : k < s.size), q ≤ k → k < j + 1 → isW s[k] = true from fun k h a b => by
                by_cases e : k < j
                · exact HALL.out k h a e
                · obtain rfl : k = j := by omega
                  rw [hd]; unfold isW; rw [l1]; rfl)
              clear l1 hd HDd
              go_wp2_with fail
              refine (HLd.out _).mono ?_
              rintro e w4 ⟨rfl, rfl⟩

              go_wp2
              go_roundw
              case rel => exact ⟨j + 1, by go_num, by omega, by omega, HALL2.out, trivial⟩
              case measure => (simp [RowKit.intOf]) <;> omega
            · have l1' : isL d = false := by simpa using l1
              rw [l1'] at HLd
              clear l1
              by_cases l2 : isD d = true
              · rw [l2] at HDd
                have HALL2 := Lib.hid (show ∀ k (h : k < s.size), q ≤ k → k < j + 1 → isW s[k] = true from fun k h a b => by
                  by_cases e : k < j
                  · exact HALL.out k h a e
                  · obtain rfl : k = j := by omega
                    rw [hd]; unfold isW; rw [l1', l2]; rfl)
                clear l1' l2 hd
                go_wp2_with fail
                refine (HLd.out _).mono ?_
                rintro e w4 ⟨rfl, rfl⟩
                go_wp2_with fail
                refine (HDd.out _).mono ?_
                rintro e w5 ⟨rfl, rfl⟩

                go_wp2
                go_roundw
                case rel => exact ⟨j + 1, by go_num, by omega, by omega, HALL2.out, trivial⟩
                case measure => (simp [RowKit.intOf]) <;> omega
              · have l2' : isD d = false := by simpa using l2
                rw [l2'] at HDd
                clear l2
                by_cases l3 : d = 95
                · have e95 : ((d.toNat : Int) == 95) = true := by subst l3; rfl
                  have HALL2 := Lib.hid (show ∀ k (h : k < s.size), q ≤ k → k < j + 1 → isW s[k] = true from fun k h a b => by
                    by_cases e : k < j
                    · exact HALL.out k h a e
                    · obtain rfl : k = j := by omega
                      rw [hd]; unfold isW; subst l3; rfl)
                  clear l1' l2' l3 hd
                  go_wp2_with fail
                  refine (HLd.out _).mono ?_
                  rintro e w4 ⟨rfl, rfl⟩
                  go_wp2_with fail
                  refine (HDd.out _).mono ?_
                  rintro e w5 ⟨rfl, rfl⟩

                  go_wp2
                  go_roundw
                  case rel => exact ⟨j + 1, by go_num, by omega, by omega, HALL2.out, trivial⟩
                  case measure => (simp [RowKit.intOf]) <;> omega
                · have e95 : ((d.toNat : Int) == 95) = false := by
                    rw [beq_eq_false_iff_ne]
                    intro e
                    exact l3 (UInt8.toNat_inj.1 (by have : d.toNat = 95 := by omega
                                                    exact this))
                  have STOP := Lib.hid (show ∀ h : j < s.size, isW s[j] = false from fun h => by
                    rw [hd]; unfold isW; rw [l1', l2']; simp [l3])
                  have hj1 : q + 1 ≤ j := by
                    rcases Nat.lt_or_ge q j with h | h
                    · exact h
                    · obtain rfl : j = q := by omega
                      have := STOP.out hlt
                      rw [HCS.out, HWc.out] at this
                      cases this

                  obtain ⟨we1, we2⟩ := word_end (f := q + 1) hj1 hj (fun k hk a b => HALL.out k hk (by omega) b) STOP.out
                  have hR6 : TokAt s j false R' := by obtain ⟨n, hn⟩ := H4.out; exact ⟨n, by rw [← we2]; exact hn⟩
                  obtain ⟨tl, htl⟩ : ∃ tl, (s.data.toList.drop q).take (j - q) = tl := ⟨_, rfl⟩
                  have htl2 : c :: (s.data.toList.drop (q + 1)).takeWhile isW = tl := by
                    rw [we1, ← htl, By.drop_at s q hlt, HCS.out, show j - q = (j - (q + 1)) + 1 by omega, List.take_succ_cons]
                  have hx := ext_take s q j
                  rw [htl] at hx
                  have HR6 := Lib.hid hR6
                  have HTL := Lib.hid htl2
                  have M2 := Lib.hid (M.out.skip (.cells #[.int .i64 1, .string ⟨tl.toArray⟩, .bool gb] 190))
                  have hb1 : (n1 + 1) * 32 ≤ 140737488355328 := by omega
                  have hq1 : n1 + 1 ≤ j := by omega
                  have yj : (j : Int) ≤ s.size := by omega
                  have yq : (q : Int) ≤ j := by omega
                  clear we1 we2 hR6 htl htl2 STOP HALL H4
                  clear l1' l2' l3 hd
                  go_wp2_with fail
                  refine (HLd.out _).mono ?_
                  rintro e w4 ⟨rfl, rfl⟩
                  go_wp2_with fail
                  refine (HDd.out _).mono ?_
                  rintro e w5 ⟨rfl, rfl⟩

                  go_wp2_with (at_builtin; refine Mem.wp_app M2.out 0 rfl rfl _ _ _ rfl _ 32 Tryz.underlying186 info_tok rfl (by decide) tokC_len tokC_one ⟨1, tl, gb⟩ ⟨wr.heap.size, 0, none⟩ 1 rfl rfl (cells_new _ rfl _ _) n1 HN1.out hb1 (by decide) ?_; intro g4 cp4 w4 M4'; have M4 := Lib.hid M4'; clear M4')
                  go_roundw
                  case rel => exact ⟨j, false, L1 ++ [(⟨1, tl, gb⟩ : Tok)], R', rfl, rfl, hj, by rw [List.length_append, HN1.out]; exact hq1, HR6.out, by rw [HL.out, List.append_assoc, HTL.out]; rfl, M4.out⟩
                  case measure => (simp [RowKit.intOf]) <;> omega
          · have x1 : ¬ (j : Int) < s.size := by omega
            have STOP := Lib.hid (show ∀ h : j < s.size, isW s[j] = false from fun h => absurd h hjl)
            have hj1 : q + 1 ≤ j := by
              rcases Nat.lt_or_ge q j with h | h
              · exact h
              · obtain rfl : j = q := by omega
                have := STOP.out hlt
                rw [HCS.out, HWc.out] at this
                cases this

            obtain ⟨we1, we2⟩ := word_end (f := q + 1) hj1 hj (fun k hk a b => HALL.out k hk (by omega) b) STOP.out
            have hR6 : TokAt s j false R' := by obtain ⟨n, hn⟩ := H4.out; exact ⟨n, by rw [← we2]; exact hn⟩
            obtain ⟨tl, htl⟩ : ∃ tl, (s.data.toList.drop q).take (j - q) = tl := ⟨_, rfl⟩
            have htl2 : c :: (s.data.toList.drop (q + 1)).takeWhile isW = tl := by
              rw [we1, ← htl, By.drop_at s q hlt, HCS.out, show j - q = (j - (q + 1)) + 1 by omega, List.take_succ_cons]
            have hx := ext_take s q j
            rw [htl] at hx
            have HR6 := Lib.hid hR6
            have HTL := Lib.hid htl2
            have M2 := Lib.hid (M.out.skip (.cells #[.int .i64 1, .string ⟨tl.toArray⟩, .bool gb] 190))
            have hb1 : (n1 + 1) * 32 ≤ 140737488355328 := by omega
            have hq1 : n1 + 1 ≤ j := by omega
            have yj : (j : Int) ≤ s.size := by omega
            have yq : (q : Int) ≤ j := by omega
            clear we1 we2 hR6 htl htl2 STOP HALL H4

            go_wp2_with (at_builtin; refine Mem.wp_app M2.out 0 rfl rfl _ _ _ rfl _ 32 Tryz.underlying186 info_tok rfl (by decide) tokC_len tokC_one ⟨1, tl, gb⟩ ⟨wr.heap.size, 0, none⟩ 1 rfl rfl (cells_new _ rfl _ _) n1 HN1.out hb1 (by decide) ?_; intro g4 cp4 w4 M4'; have M4 := Lib.hid M4'; clear M4')
            go_roundw
            case rel => exact ⟨j, false, L1 ++ [(⟨1, tl, gb⟩ : Tok)], R', rfl, rfl, hj, by rw [List.length_append, HN1.out]; exact hq1, HR6.out, by rw [HL.out, List.append_assoc, HTL.out]; rfl, M4.out⟩
            case measure => (simp [RowKit.intOf]) <;> omega
      · have H4 := Lib.hid h5
        have HCS : Is (s[q]'hlt) c := ⟨hcs⟩
        have HLt := Lib.hid fun w => letter_any c w
        have HDg := Lib.hid fun w => digit_any c w
        rw [h2] at HLt
        have e32 : ((c.toNat : Int) == 32) = false := by
          rw [beq_eq_false_iff_ne]
          intro e
          exact h1 (UInt8.toNat_inj.1 (by have : c.toNat = 32 := by omega
                                          exact this))
        subst h4
        obtain ⟨wA, rfl⟩ : ∃ wA : World, wA = wr := ⟨_, rfl⟩
        by_cases g1 : isD c = true
        · rw [g1] at HDg
          clear h5 h1 h2 h3 HC hcs g1
          go_wp2_with fail
          refine (HLt.out _).mono ?_
          rintro e w3 ⟨rfl, rfl⟩
          go_wp2_with fail
          refine (HDg.out _).mono ?_
          rintro e w6 ⟨rfl, rfl⟩
          go_wp2
          go_loopw [6] (fun i wr' => ∃ j : Nat, i = .int .i64 (j : Int) ∧ q + 1 ≤ j ∧ j ≤ s.size ∧ (∀ k (h : k < s.size), q + 1 ≤ k → k < j → isW s[k] = true) ∧ wr' = wA) (fun i _ => s.size - (RowKit.intOf i).toNat)
          case atStart => exact ⟨q + 1, by go_num, Nat.le_refl _, hlt, fun k h a b => by omega, rfl⟩
          case round =>
            obtain ⟨j, rfl, hqj, hj, hall, rfl⟩ := hrel
            have HALL := Lib.hid hall
            clear hall
            by_cases hjl : j < s.size
            · have x1 : (j : Int) < s.size := by omega
              have x2 : (0 : Int) ≤ j := by omega
              have ij := By.idx s (j : Int) j rfl hjl
              obtain ⟨d, hd⟩ : ∃ d, s[j] = d := ⟨_, rfl⟩
              rw [hd] at ij
              have HLd := Lib.hid fun w => letter_any d w
              have HDd := Lib.hid fun w => digit_any d w
              by_cases l1 : isL d = true
              · rw [l1] at HLd
                have HALL2 := Lib.hid (show ∀ k (h : k < s.size), q + 1 ≤ k → k < j + 1 → isW s[k] = true from fun k h a b => by
                  by_cases e : k < j
                  · exact HALL.out k h a e
                  · obtain rfl : k = j := by omega
                    rw [hd]; unfold isW; rw [l1]; rfl)
                clear l1 hd HDd
                go_wp2_with fail
                refine (HLd.out _).mono ?_
                rintro e w4 ⟨rfl, rfl⟩

                go_wp2
                go_roundw
                case rel => exact ⟨j + 1, by go_num, by omega, by omega, HALL2.out, trivial⟩
                case measure => (simp [RowKit.intOf]) <;> omega
              · have l1' : isL d = false := by simpa using l1
                rw [l1'] at HLd
                clear l1
                by_cases l2 : isD d = true
                · rw [l2] at HDd
                  have HALL2 := Lib.hid (show ∀ k (h : k < s.size), q + 1 ≤ k → k < j + 1 → isW s[k] = true from fun k h a b => by
                    by_cases e : k < j
                    · exact HALL.out k h a e
                    · obtain rfl : k = j := by omega
                      rw [hd]; unfold isW; rw [l1', l2]; rfl)
                  clear l1' l2 hd
                  go_wp2_with fail
                  refine (HLd.out _).mono ?_
                  rintro e w4 ⟨rfl, rfl⟩
                  go_wp2_with fail
                  refine (HDd.out _).mono ?_
                  rintro e w5 ⟨rfl, rfl⟩

                  go_wp2
                  go_roundw
                  case rel => exact ⟨j + 1, by go_num, by omega, by omega, HALL2.out, trivial⟩
                  case measure => (simp [RowKit.intOf]) <;> omega
                · have l2' : isD d = false := by simpa using l2
                  rw [l2'] at HDd
                  clear l2
                  by_cases l3 : d = 95
                  · have e95 : ((d.toNat : Int) == 95) = true := by subst l3; rfl
                    have HALL2 := Lib.hid (show ∀ k (h : k < s.size), q + 1 ≤ k → k < j + 1 → isW s[k] = true from fun k h a b => by
                      by_cases e : k < j
                      · exact HALL.out k h a e
                      · obtain rfl : k = j := by omega
                        rw [hd]; unfold isW; subst l3; rfl)
                    clear l1' l2' l3 hd
                    go_wp2_with fail
                    refine (HLd.out _).mono ?_
                    rintro e w4 ⟨rfl, rfl⟩
                    go_wp2_with fail
                    refine (HDd.out _).mono ?_
                    rintro e w5 ⟨rfl, rfl⟩

                    go_wp2
                    go_roundw
                    case rel => exact ⟨j + 1, by go_num, by omega, by omega, HALL2.out, trivial⟩
                    case measure => (simp [RowKit.intOf]) <;> omega
                  · have e95 : ((d.toNat : Int) == 95) = false := by
                      rw [beq_eq_false_iff_ne]
                      intro e
                      exact l3 (UInt8.toNat_inj.1 (by have : d.toNat = 95 := by omega
                                                      exact this))
                    have STOP := Lib.hid (show ∀ h : j < s.size, isW s[j] = false from fun h => by
                      rw [hd]; unfold isW; rw [l1', l2']; simp [l3])
                    have hj1 : q + 1 ≤ j := hqj

                    obtain ⟨we1, we2⟩ := word_end (f := q + 1) hj1 hj (fun k hk a b => HALL.out k hk (by omega) b) STOP.out
                    have hR6 : TokAt s j false R' := by obtain ⟨n, hn⟩ := H4.out; exact ⟨n, by rw [← we2]; exact hn⟩
                    obtain ⟨tl, htl⟩ : ∃ tl, (s.data.toList.drop q).take (j - q) = tl := ⟨_, rfl⟩
                    have htl2 : c :: (s.data.toList.drop (q + 1)).takeWhile isW = tl := by
                      rw [we1, ← htl, By.drop_at s q hlt, HCS.out, show j - q = (j - (q + 1)) + 1 by omega, List.take_succ_cons]
                    have hx := ext_take s q j
                    rw [htl] at hx
                    have HR6 := Lib.hid hR6
                    have HTL := Lib.hid htl2
                    have M2 := Lib.hid (M.out.skip (.cells #[.int .i64 2, .string ⟨tl.toArray⟩, .bool gb] 190))
                    have hb1 : (n1 + 1) * 32 ≤ 140737488355328 := by omega
                    have hq1 : n1 + 1 ≤ j := by omega
                    have yj : (j : Int) ≤ s.size := by omega
                    have yq : (q : Int) ≤ j := by omega
                    clear we1 we2 hR6 htl htl2 STOP HALL H4
                    clear l1' l2' l3 hd
                    go_wp2_with fail
                    refine (HLd.out _).mono ?_
                    rintro e w4 ⟨rfl, rfl⟩
                    go_wp2_with fail
                    refine (HDd.out _).mono ?_
                    rintro e w5 ⟨rfl, rfl⟩

                    go_wp2_with (at_builtin; refine Mem.wp_app M2.out 0 rfl rfl _ _ _ rfl _ 32 Tryz.underlying186 info_tok rfl (by decide) tokC_len tokC_one ⟨2, tl, gb⟩ ⟨wr.heap.size, 0, none⟩ 1 rfl rfl (cells_new _ rfl _ _) n1 HN1.out hb1 (by decide) ?_; intro g4 cp4 w4 M4'; have M4 := Lib.hid M4'; clear M4')
                    go_roundw
                    case rel => exact ⟨j, false, L1 ++ [(⟨2, tl, gb⟩ : Tok)], R', rfl, rfl, hj, by rw [List.length_append, HN1.out]; exact hq1, HR6.out, by rw [HL.out, List.append_assoc, HTL.out]; rfl, M4.out⟩
                    case measure => (simp [RowKit.intOf]) <;> omega
            · have x1 : ¬ (j : Int) < s.size := by omega
              have STOP := Lib.hid (show ∀ h : j < s.size, isW s[j] = false from fun h => absurd h hjl)
              have hj1 : q + 1 ≤ j := hqj

              obtain ⟨we1, we2⟩ := word_end (f := q + 1) hj1 hj (fun k hk a b => HALL.out k hk (by omega) b) STOP.out
              have hR6 : TokAt s j false R' := by obtain ⟨n, hn⟩ := H4.out; exact ⟨n, by rw [← we2]; exact hn⟩
              obtain ⟨tl, htl⟩ : ∃ tl, (s.data.toList.drop q).take (j - q) = tl := ⟨_, rfl⟩
              have htl2 : c :: (s.data.toList.drop (q + 1)).takeWhile isW = tl := by
                rw [we1, ← htl, By.drop_at s q hlt, HCS.out, show j - q = (j - (q + 1)) + 1 by omega, List.take_succ_cons]
              have hx := ext_take s q j
              rw [htl] at hx
              have HR6 := Lib.hid hR6
              have HTL := Lib.hid htl2
              have M2 := Lib.hid (M.out.skip (.cells #[.int .i64 2, .string ⟨tl.toArray⟩, .bool gb] 190))
              have hb1 : (n1 + 1) * 32 ≤ 140737488355328 := by omega
              have hq1 : n1 + 1 ≤ j := by omega
              have yj : (j : Int) ≤ s.size := by omega
              have yq : (q : Int) ≤ j := by omega
              clear we1 we2 hR6 htl htl2 STOP HALL H4

              go_wp2_with (at_builtin; refine Mem.wp_app M2.out 0 rfl rfl _ _ _ rfl _ 32 Tryz.underlying186 info_tok rfl (by decide) tokC_len tokC_one ⟨2, tl, gb⟩ ⟨wr.heap.size, 0, none⟩ 1 rfl rfl (cells_new _ rfl _ _) n1 HN1.out hb1 (by decide) ?_; intro g4 cp4 w4 M4'; have M4 := Lib.hid M4'; clear M4')
              go_roundw
              case rel => exact ⟨j, false, L1 ++ [(⟨2, tl, gb⟩ : Tok)], R', rfl, rfl, hj, by rw [List.length_append, HN1.out]; exact hq1, HR6.out, by rw [HL.out, List.append_assoc, HTL.out]; rfl, M4.out⟩
              case measure => (simp [RowKit.intOf]) <;> omega
        · have g1' : isD c = false := by simpa using g1
          rw [g1'] at HDg h3
          have e45 : ((c.toNat : Int) == 45) = true := by
            simp only [Bool.false_or, decide_eq_true_eq] at h3
            subst h3
            rfl
          clear h5 h1 h2 h3 HC hcs g1 g1'
          go_wp2_with fail
          refine (HLt.out _).mono ?_
          rintro e w3 ⟨rfl, rfl⟩
          go_wp2_with fail
          refine (HDg.out _).mono ?_
          rintro e w6 ⟨rfl, rfl⟩
          go_wp2
          go_loopw [6] (fun i wr' => ∃ j : Nat, i = .int .i64 (j : Int) ∧ q + 1 ≤ j ∧ j ≤ s.size ∧ (∀ k (h : k < s.size), q + 1 ≤ k → k < j → isW s[k] = true) ∧ wr' = wA) (fun i _ => s.size - (RowKit.intOf i).toNat)
          case atStart => exact ⟨q + 1, by go_num, Nat.le_refl _, hlt, fun k h a b => by omega, rfl⟩
          case round =>
            obtain ⟨j, rfl, hqj, hj, hall, rfl⟩ := hrel
            have HALL := Lib.hid hall
            clear hall
            by_cases hjl : j < s.size
            · have x1 : (j : Int) < s.size := by omega
              have x2 : (0 : Int) ≤ j := by omega
              have ij := By.idx s (j : Int) j rfl hjl
              obtain ⟨d, hd⟩ : ∃ d, s[j] = d := ⟨_, rfl⟩
              rw [hd] at ij
              have HLd := Lib.hid fun w => letter_any d w
              have HDd := Lib.hid fun w => digit_any d w
              by_cases l1 : isL d = true
              · rw [l1] at HLd
                have HALL2 := Lib.hid (show ∀ k (h : k < s.size), q + 1 ≤ k → k < j + 1 → isW s[k] = true from fun k h a b => by
                  by_cases e : k < j
                  · exact HALL.out k h a e
                  · obtain rfl : k = j := by omega
                    rw [hd]; unfold isW; rw [l1]; rfl)
                clear l1 hd HDd
                go_wp2_with fail
                refine (HLd.out _).mono ?_
                rintro e w4 ⟨rfl, rfl⟩

                go_wp2
                go_roundw
                case rel => exact ⟨j + 1, by go_num, by omega, by omega, HALL2.out, trivial⟩
                case measure => (simp [RowKit.intOf]) <;> omega
              · have l1' : isL d = false := by simpa using l1
                rw [l1'] at HLd
                clear l1
                by_cases l2 : isD d = true
                · rw [l2] at HDd
                  have HALL2 := Lib.hid (show ∀ k (h : k < s.size), q + 1 ≤ k → k < j + 1 → isW s[k] = true from fun k h a b => by
                    by_cases e : k < j
                    · exact HALL.out k h a e
                    · obtain rfl : k = j := by omega
                      rw [hd]; unfold isW; rw [l1', l2]; rfl)
                  clear l1' l2 hd
                  go_wp2_with fail
                  refine (HLd.out _).mono ?_
                  rintro e w4 ⟨rfl, rfl⟩
                  go_wp2_with fail
                  refine (HDd.out _).mono ?_
                  rintro e w5 ⟨rfl, rfl⟩

                  go_wp2
                  go_roundw
                  case rel => exact ⟨j + 1, by go_num, by omega, by omega, HALL2.out, trivial⟩
                  case measure => (simp [RowKit.intOf]) <;> omega
                · have l2' : isD d = false := by simpa using l2
                  rw [l2'] at HDd
                  clear l2
                  by_cases l3 : d = 95
                  · have e95 : ((d.toNat : Int) == 95) = true := by subst l3; rfl
                    have HALL2 := Lib.hid (show ∀ k (h : k < s.size), q + 1 ≤ k → k < j + 1 → isW s[k] = true from fun k h a b => by
                      by_cases e : k < j
                      · exact HALL.out k h a e
                      · obtain rfl : k = j := by omega
                        rw [hd]; unfold isW; subst l3; rfl)
                    clear l1' l2' l3 hd
                    go_wp2_with fail
                    refine (HLd.out _).mono ?_
                    rintro e w4 ⟨rfl, rfl⟩
                    go_wp2_with fail
                    refine (HDd.out _).mono ?_
                    rintro e w5 ⟨rfl, rfl⟩

                    go_wp2
                    go_roundw
                    case rel => exact ⟨j + 1, by go_num, by omega, by omega, HALL2.out, trivial⟩
                    case measure => (simp [RowKit.intOf]) <;> omega
                  · have e95 : ((d.toNat : Int) == 95) = false := by
                      rw [beq_eq_false_iff_ne]
                      intro e
                      exact l3 (UInt8.toNat_inj.1 (by have : d.toNat = 95 := by omega
                                                      exact this))
                    have STOP := Lib.hid (show ∀ h : j < s.size, isW s[j] = false from fun h => by
                      rw [hd]; unfold isW; rw [l1', l2']; simp [l3])
                    have hj1 : q + 1 ≤ j := hqj

                    obtain ⟨we1, we2⟩ := word_end (f := q + 1) hj1 hj (fun k hk a b => HALL.out k hk (by omega) b) STOP.out
                    have hR6 : TokAt s j false R' := by obtain ⟨n, hn⟩ := H4.out; exact ⟨n, by rw [← we2]; exact hn⟩
                    obtain ⟨tl, htl⟩ : ∃ tl, (s.data.toList.drop q).take (j - q) = tl := ⟨_, rfl⟩
                    have htl2 : c :: (s.data.toList.drop (q + 1)).takeWhile isW = tl := by
                      rw [we1, ← htl, By.drop_at s q hlt, HCS.out, show j - q = (j - (q + 1)) + 1 by omega, List.take_succ_cons]
                    have hx := ext_take s q j
                    rw [htl] at hx
                    have HR6 := Lib.hid hR6
                    have HTL := Lib.hid htl2
                    have M2 := Lib.hid (M.out.skip (.cells #[.int .i64 2, .string ⟨tl.toArray⟩, .bool gb] 190))
                    have hb1 : (n1 + 1) * 32 ≤ 140737488355328 := by omega
                    have hq1 : n1 + 1 ≤ j := by omega
                    have yj : (j : Int) ≤ s.size := by omega
                    have yq : (q : Int) ≤ j := by omega
                    clear we1 we2 hR6 htl htl2 STOP HALL H4
                    clear l1' l2' l3 hd
                    go_wp2_with fail
                    refine (HLd.out _).mono ?_
                    rintro e w4 ⟨rfl, rfl⟩
                    go_wp2_with fail
                    refine (HDd.out _).mono ?_
                    rintro e w5 ⟨rfl, rfl⟩

                    go_wp2_with (at_builtin; refine Mem.wp_app M2.out 0 rfl rfl _ _ _ rfl _ 32 Tryz.underlying186 info_tok rfl (by decide) tokC_len tokC_one ⟨2, tl, gb⟩ ⟨wr.heap.size, 0, none⟩ 1 rfl rfl (cells_new _ rfl _ _) n1 HN1.out hb1 (by decide) ?_; intro g4 cp4 w4 M4'; have M4 := Lib.hid M4'; clear M4')
                    go_roundw
                    case rel => exact ⟨j, false, L1 ++ [(⟨2, tl, gb⟩ : Tok)], R', rfl, rfl, hj, by rw [List.length_append, HN1.out]; exact hq1, HR6.out, by rw [HL.out, List.append_assoc, HTL.out]; rfl, M4.out⟩
                    case measure => (simp [RowKit.intOf]) <;> omega
            · have x1 : ¬ (j : Int) < s.size := by omega
              have STOP := Lib.hid (show ∀ h : j < s.size, isW s[j] = false from fun h => absurd h hjl)
              have hj1 : q + 1 ≤ j := hqj

              obtain ⟨we1, we2⟩ := word_end (f := q + 1) hj1 hj (fun k hk a b => HALL.out k hk (by omega) b) STOP.out
              have hR6 : TokAt s j false R' := by obtain ⟨n, hn⟩ := H4.out; exact ⟨n, by rw [← we2]; exact hn⟩
              obtain ⟨tl, htl⟩ : ∃ tl, (s.data.toList.drop q).take (j - q) = tl := ⟨_, rfl⟩
              have htl2 : c :: (s.data.toList.drop (q + 1)).takeWhile isW = tl := by
                rw [we1, ← htl, By.drop_at s q hlt, HCS.out, show j - q = (j - (q + 1)) + 1 by omega, List.take_succ_cons]
              have hx := ext_take s q j
              rw [htl] at hx
              have HR6 := Lib.hid hR6
              have HTL := Lib.hid htl2
              have M2 := Lib.hid (M.out.skip (.cells #[.int .i64 2, .string ⟨tl.toArray⟩, .bool gb] 190))
              have hb1 : (n1 + 1) * 32 ≤ 140737488355328 := by omega
              have hq1 : n1 + 1 ≤ j := by omega
              have yj : (j : Int) ≤ s.size := by omega
              have yq : (q : Int) ≤ j := by omega
              clear we1 we2 hR6 htl htl2 STOP HALL H4

              go_wp2_with (at_builtin; refine Mem.wp_app M2.out 0 rfl rfl _ _ _ rfl _ 32 Tryz.underlying186 info_tok rfl (by decide) tokC_len tokC_one ⟨2, tl, gb⟩ ⟨wr.heap.size, 0, none⟩ 1 rfl rfl (cells_new _ rfl _ _) n1 HN1.out hb1 (by decide) ?_; intro g4 cp4 w4 M4'; have M4 := Lib.hid M4'; clear M4')
              go_roundw
              case rel => exact ⟨j, false, L1 ++ [(⟨2, tl, gb⟩ : Tok)], R', rfl, rfl, hj, by rw [List.length_append, HN1.out]; exact hq1, HR6.out, by rw [HL.out, List.append_assoc, HTL.out]; rfl, M4.out⟩
              case measure => (simp [RowKit.intOf]) <;> omega
      · have H6 := Lib.hid h6
        have HLt := Lib.hid fun w => letter_any c w
        have HDg := Lib.hid fun w => digit_any c w
        have e32 : ((c.toNat : Int) == 32) = false := by
          rw [beq_eq_false_iff_ne]
          intro e
          exact h1 (UInt8.toNat_inj.1 (by have : c.toNat = 32 := by omega
                                          exact this))
        rw [h2] at HLt
        simp only [Bool.or_eq_false_iff, decide_eq_false_iff_not] at h3
        rw [h3.1] at HDg
        have e45 : ((c.toNat : Int) == 45) = false := by
          rw [beq_eq_false_iff_ne]
          intro e
          exact h3.2 (UInt8.toNat_inj.1 (by have : c.toNat = 45 := by omega
                                            exact this))
        subst h5
        have HS := Lib.hid h4
        clear h6 h1 h2 h3 h4 HC
        have hk : c.toNat = 44 ∨ c.toNat = 58 ∨ c.toNat = 40 ∨ c.toNat = 41 ∨ c.toNat = 46 := by
          have := HS.out
          unfold isS at this
          simp only [Bool.or_eq_true, decide_eq_true_eq] at this
          rcases this with (((rfl | rfl) | rfl) | rfl) | rfl <;> decide
        have hcut1 : (q : Int) + 1 ≤ s.size := by omega
        have hx := ext_take s q (q + 1)
        have hsub : q + 1 - q = 1 := by omega
        have htk : (s.data.toList.drop q).take 1 = [c] := by rw [By.drop_at s q hlt, hcs]; rfl
        rw [hsub, htk] at hx
        have M2 := Lib.hid (M.out.skip (.cells #[.int .i64 3, .string ⟨#[c]⟩, .bool gb] 190))
        have hb1 : (n1 + 1) * 32 ≤ 140737488355328 := by omega
        have hq1 : n1 + 1 ≤ q + 1 := by omega
        clear htk hsub HS hcs
        rcases hk with hk | hk | hk | hk | hk
        · have e44 : ((c.toNat : Int) == 44) = true := by rw [beq_iff_eq]; omega
          clear hk
          go_wp2_with fail
          refine (HLt.out _).mono ?_
          rintro e w3 ⟨rfl, rfl⟩
          go_wp2_with fail
          refine (HDg.out _).mono ?_
          rintro e w4 ⟨rfl, rfl⟩
          go_wp2_with (at_builtin; refine Mem.wp_app M2.out 0 rfl rfl _ _ _ rfl _ 32 Tryz.underlying186 info_tok rfl (by decide) tokC_len tokC_one ⟨3, [c], gb⟩ ⟨wr.heap.size, 0, none⟩ 1 rfl rfl (cells_new _ rfl _ _) n1 HN1.out hb1 (by decide) ?_; intro g4 cp4 w4 M4'; have M4 := Lib.hid M4'; clear M4')
          go_roundw
          case rel => exact ⟨q + 1, false, L1 ++ [(⟨3, [c], gb⟩ : Tok)], R', rfl, by go_num, by omega, by rw [List.length_append, HN1.out]; exact hq1, H6.out, by rw [HL.out, List.append_assoc]; rfl, M4.out⟩
          case measure => (simp [RowKit.intOf]) <;> omega
        · have e44 : ((c.toNat : Int) == 44) = false := by rw [beq_eq_false_iff_ne]; omega
          have e58 : ((c.toNat : Int) == 58) = true := by rw [beq_iff_eq]; omega
          clear hk
          go_wp2_with fail
          refine (HLt.out _).mono ?_
          rintro e w3 ⟨rfl, rfl⟩
          go_wp2_with fail
          refine (HDg.out _).mono ?_
          rintro e w4 ⟨rfl, rfl⟩
          go_wp2_with (at_builtin; refine Mem.wp_app M2.out 0 rfl rfl _ _ _ rfl _ 32 Tryz.underlying186 info_tok rfl (by decide) tokC_len tokC_one ⟨3, [c], gb⟩ ⟨wr.heap.size, 0, none⟩ 1 rfl rfl (cells_new _ rfl _ _) n1 HN1.out hb1 (by decide) ?_; intro g4 cp4 w4 M4'; have M4 := Lib.hid M4'; clear M4')
          go_roundw
          case rel => exact ⟨q + 1, false, L1 ++ [(⟨3, [c], gb⟩ : Tok)], R', rfl, by go_num, by omega, by rw [List.length_append, HN1.out]; exact hq1, H6.out, by rw [HL.out, List.append_assoc]; rfl, M4.out⟩
          case measure => (simp [RowKit.intOf]) <;> omega
        · have e44 : ((c.toNat : Int) == 44) = false := by rw [beq_eq_false_iff_ne]; omega
          have e58 : ((c.toNat : Int) == 58) = false := by rw [beq_eq_false_iff_ne]; omega
          have e40 : ((c.toNat : Int) == 40) = true := by rw [beq_iff_eq]; omega
          clear hk
          go_wp2_with fail
          refine (HLt.out _).mono ?_
          rintro e w3 ⟨rfl, rfl⟩
          go_wp2_with fail
          refine (HDg.out _).mono ?_
          rintro e w4 ⟨rfl, rfl⟩
          go_wp2_with (at_builtin; refine Mem.wp_app M2.out 0 rfl rfl _ _ _ rfl _ 32 Tryz.underlying186 info_tok rfl (by decide) tokC_len tokC_one ⟨3, [c], gb⟩ ⟨wr.heap.size, 0, none⟩ 1 rfl rfl (cells_new _ rfl _ _) n1 HN1.out hb1 (by decide) ?_; intro g4 cp4 w4 M4'; have M4 := Lib.hid M4'; clear M4')
          go_roundw
          case rel => exact ⟨q + 1, false, L1 ++ [(⟨3, [c], gb⟩ : Tok)], R', rfl, by go_num, by omega, by rw [List.length_append, HN1.out]; exact hq1, H6.out, by rw [HL.out, List.append_assoc]; rfl, M4.out⟩
          case measure => (simp [RowKit.intOf]) <;> omega
        · have e44 : ((c.toNat : Int) == 44) = false := by rw [beq_eq_false_iff_ne]; omega
          have e58 : ((c.toNat : Int) == 58) = false := by rw [beq_eq_false_iff_ne]; omega
          have e40 : ((c.toNat : Int) == 40) = false := by rw [beq_eq_false_iff_ne]; omega
          have e41 : ((c.toNat : Int) == 41) = true := by rw [beq_iff_eq]; omega
          clear hk
          go_wp2_with fail
          refine (HLt.out _).mono ?_
          rintro e w3 ⟨rfl, rfl⟩
          go_wp2_with fail
          refine (HDg.out _).mono ?_
          rintro e w4 ⟨rfl, rfl⟩
          go_wp2_with (at_builtin; refine Mem.wp_app M2.out 0 rfl rfl _ _ _ rfl _ 32 Tryz.underlying186 info_tok rfl (by decide) tokC_len tokC_one ⟨3, [c], gb⟩ ⟨wr.heap.size, 0, none⟩ 1 rfl rfl (cells_new _ rfl _ _) n1 HN1.out hb1 (by decide) ?_; intro g4 cp4 w4 M4'; have M4 := Lib.hid M4'; clear M4')
          go_roundw
          case rel => exact ⟨q + 1, false, L1 ++ [(⟨3, [c], gb⟩ : Tok)], R', rfl, by go_num, by omega, by rw [List.length_append, HN1.out]; exact hq1, H6.out, by rw [HL.out, List.append_assoc]; rfl, M4.out⟩
          case measure => (simp [RowKit.intOf]) <;> omega
        · have e44 : ((c.toNat : Int) == 44) = false := by rw [beq_eq_false_iff_ne]; omega
          have e58 : ((c.toNat : Int) == 58) = false := by rw [beq_eq_false_iff_ne]; omega
          have e40 : ((c.toNat : Int) == 40) = false := by rw [beq_eq_false_iff_ne]; omega
          have e41 : ((c.toNat : Int) == 41) = false := by rw [beq_eq_false_iff_ne]; omega
          have e46 : ((c.toNat : Int) == 46) = true := by rw [beq_iff_eq]; omega
          clear hk
          go_wp2_with fail
          refine (HLt.out _).mono ?_
          rintro e w3 ⟨rfl, rfl⟩
          go_wp2_with fail
          refine (HDg.out _).mono ?_
          rintro e w4 ⟨rfl, rfl⟩
          go_wp2_with (at_builtin; refine Mem.wp_app M2.out 0 rfl rfl _ _ _ rfl _ 32 Tryz.underlying186 info_tok rfl (by decide) tokC_len tokC_one ⟨3, [c], gb⟩ ⟨wr.heap.size, 0, none⟩ 1 rfl rfl (cells_new _ rfl _ _) n1 HN1.out hb1 (by decide) ?_; intro g4 cp4 w4 M4'; have M4 := Lib.hid M4'; clear M4')
          go_roundw
          case rel => exact ⟨q + 1, false, L1 ++ [(⟨3, [c], gb⟩ : Tok)], R', rfl, by go_num, by omega, by rw [List.length_append, HN1.out]; exact hq1, H6.out, by rw [HL.out, List.append_assoc]; rfl, M4.out⟩
          case measure => (simp [RowKit.intOf]) <;> omega
    · obtain rfl : q = s.size := by omega
      have y1 : ¬ (s.size : Int) < s.size := by omega
      have hR := tokAt_end HT.out rfl
      have HLL : Is L L1 := ⟨by rw [HL.out, hR, List.append_nil]⟩
      clear HL HT hR
      go_wp2
      go_ret2
      exact ⟨_, _, _, rfl, by rw [HLL.out]; exact M.out.row 0 rfl, M.out.held⟩
end As
end Go.Proofs.YtdacgdokbfcgdaaGreat
