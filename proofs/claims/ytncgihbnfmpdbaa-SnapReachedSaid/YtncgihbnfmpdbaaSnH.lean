/-
  Contracts: a node of a valid tree is found valid (chapter 41), by the program.
-/
import Derived.Test.YtncgihbnfmpdbaaSnC
set_option linter.unusedVariables false
set_option linter.unusedSimpArgs false
set_option maxRecDepth 100000
namespace Go.Proofs.Ytncgihbnfmpdbaa
open Go.RowKit
namespace Sn
theorem size_zero {s : ByteArray} (h : s.size = 0) : s.toList.isEmpty = true := by
  rw [ByteArray.toList_eq]
  have : s.size = s.data.toList.length := (Array.length_toList (xs := s.data)).symm
  rw [this] at h
  rw [List.length_eq_zero_iff.1 h]; rfl
theorem ds_len {ds : List Dl} {N : Nat} (h : DsOk ds N) : ds.length ≤ N := by
  have key : ∀ (k : Nat) (hk : k < ds.length), (k : Int) ≤ ds[k].b := by
    intro k
    induction k with
    | zero => intro hk; exact (h.all _ (List.getElem_mem hk)).1
    | succ k ih =>
      intro hk
      have h1 := ih (by omega)
      have h2 := List.pairwise_iff_getElem.1 h.sorted k (k + 1) (by omega) hk (by omega)
      omega
  by_cases h0 : ds.length = 0
  · omega
  · have h1 := key (ds.length - 1) (by omega)
    have h2 := (h.all _ (List.getElem_mem (show ds.length - 1 < ds.length by omega))).2.1
    omega
set_option maxHeartbeats 2000000 in
theorem vnode_any (Ab : Option Addr) (nb cb : Nat) (An : Option Addr) (nn cn : Nat) (T : Tr) (i : Nat) (w : World) (h : TrR w Ab nb An nn T) (hv : Ok T) (hi : i < nn) :
    Calls Try.prog 37 #[.agg #[.slice Ab nb cb, .slice An nn cn], .int .i64 i] w fun e w' => e = .returned (.bool true) ∧ Held w w' := by
  have HT := Lib.hid h
  have hnn := h.nn
  have hn12 := hv.nods
  have M0 := Lib.hid ((Mem.start w).alloc #[.slice Ab nb cb, .slice An nn cn] 27)
  obtain ⟨b, off, x, A, dn, dcap, rfl, lb, hx, x0, x1, x2, x3, hds, _⟩ := h.at_ (Held.refl w) (k := i) hi
  have HN := Lib.hid (hv.node i x hx)
  have hbl : T.base.length = nb := h.bs.1
  have HDS := Lib.hid hds
  by_cases hd : x.nm.size = 0
  · obtain ⟨d1, d2, d3⟩ := HN.out.dead hd
    have hz := size_zero hd
    have hdn : dn = 0 := by rw [← hds.1, d3]; rfl
    subst hdn
    rw [d1] at x1
    rw [d2] at x2
    clear h hds d1 d2 d3
    go_enter Try.func37, Try.ntmps37
    go_wp2
    go_ret
    exact ⟨rfl, M0.out.held.alloc _⟩
  · have hp := HN.out.par hd
    have hz := nm_empty hd
    have hnm := HN.out.name
    have hxp : x.par < (i : Int) := hp.2.1
    have hpp : ¬ x.par < -1 := by omega
    have hpi : ¬ (i : Int) ≤ x.par := by omega
    have hns : ¬ (12 : Int) < (x.nm.size : Int) := by omega
    have hdl := ds_len HN.out.ds
    rw [hbl, hds.1] at hdl
    have hnb := hv.base2
    rw [hbl] at hnb
    have HVD : Hid (DsOk x.ds nb) := show DsOk x.ds nb by rw [← hbl]; exact HN.out.ds
    obtain ⟨ln, hln⟩ : ∃ n, (kids T.nodes i).length = n := ⟨_, rfl⟩
    have hq : ((ln : Int) == 0) = x.op := by
      rw [HN.out.op hd, ← hln]
      cases kids T.nodes i with
      | nil => rfl
      | cons a l => simp; omega
    have HLN := Lib.hid hln
    clear hln
    clear h hds
    have HF := Lib.hid (findR_at hv hx hd)
    obtain ⟨p, hpe⟩ : ∃ p, x.par = p := ⟨_, rfl⟩
    have HPE := Lib.hid hpe
    rw [hpe] at x1 hxp hpp hpi
    clear hpe hp
    have M1 := Lib.hid (M0.out.alloc' (b := w.heap.size + 1) (by simp) #[.string x.nm, .int .i64 p, .bool x.op, .slice A dn dcap] 36)
    by_cases hp0 : 0 ≤ p
    · have HEX := Lib.hid ((HN.out.par hd).2.2 (by rw [HPE.out]; exact hp0))
      go_enter Try.func37, Try.ntmps37
      go_wp2_with (first | (go_at_call 39; refine (exists_any Ab nb cb (some ⟨b, off, none⟩) nn cn T _ _ (HT.out.held (((Held.refl w).alloc _).alloc _))).mono ?_; rintro e w3 ⟨rfl, h3⟩; rw [← HPE.out, HEX.out]; have M2 := Lib.hid (M1.out.keep h3); obtain ⟨⟨u0, u1⟩, _, ult⟩ := M2.out.box2 0 rfl; obtain ⟨⟨t0, t1, t2, t3⟩, _, tlt⟩ := M2.out.box4 1 rfl) | (go_at_call 20; refine (find_any Ab nb cb (some ⟨b, off, none⟩) nn cn T _ _ (HT.out.held M2.out.held) (by omega) hd).mono ?_; rintro e w4 ⟨rfl, h4⟩; rw [HF.out]; have M3 := Lib.hid (M2.out.keep h4); obtain ⟨⟨v0, v1⟩, _, vlt⟩ := M3.out.box2 0 rfl; obtain ⟨⟨s0, s1, s2, s3⟩, _, slt⟩ := M3.out.box4 1 rfl))
      obtain ⟨wr, hwr⟩ : ∃ wr, wr = w4 := ⟨_, rfl⟩
      have MZ := M3
      rw [← hwr] at MZ ⊢
      clear hwr
      obtain ⟨⟨p0, p1⟩, _, plt⟩ := MZ.out.box2 0 rfl
      obtain ⟨⟨q0, q1, q2, q3⟩, _, qlt⟩ := MZ.out.box4 1 rfl
      go_region_held3 (fun w' => w'.cell? ⟨w.heap.size, 0, none⟩ = some (.slice Ab nb cb) ∧ w'.cell? ⟨w.heap.size, 1, none⟩ = some (.slice (some ⟨b, off, none⟩) nn cn) ∧ w'.cell? ⟨w.heap.size + 1, 2, none⟩ = some (.bool x.op) ∧ w'.cell? ⟨w.heap.size + 1, 3, none⟩ = some (.slice A dn dcap) ∧ Held wr w')
        ((repeat' refine And.intro ?_ ?_) <;> first | exact p0 | exact p1 | exact q2 | exact q3 | exact (Held.refl _).drew | exact Held.cell (by assumption) p0 | exact Held.cell (by assumption) p1 | exact Held.cell (by assumption) q2 | exact Held.cell (by assumption) q3 | exact (by assumption))
        (first | (go_at_call 52; refine (vdeltas_any A dn dcap x.ds nb _ (HDS.out.held (MZ.out.held.step (Held.refl _).drew)) HVD.out (by omega)).mono ?_; rintro e w5 ⟨rfl, h5⟩; have k5 : Held wr w5 := (Held.refl _).drew.step h5) | (go_at_call 42; refine (children_any Ab nb cb (some ⟨b, off, none⟩) nn cn T _ _ (HT.out.held (MZ.out.held.step k5)) (by omega)).mono ?_; rintro e w6 ⟨A4, cap4, rfl, hc4, ho4, h6⟩; rw [HLN.out] at hc4 ⊢; have k6 : Held wr w6 := k5.step h6; clear ho4))
      go_wp2
      go_ret
      exact ⟨by simp, MZ.out.held.step k6⟩
    · go_enter Try.func37, Try.ntmps37
      go_wp2_with (first | (go_at_call 20; refine (find_any Ab nb cb (some ⟨b, off, none⟩) nn cn T _ _ (HT.out.held (((Held.refl w).alloc _).alloc _)) (by omega) hd).mono ?_; rintro e w3 ⟨rfl, h3⟩; rw [HF.out]; have M2 := Lib.hid (M1.out.keep h3); obtain ⟨⟨u0, u1⟩, _, ult⟩ := M2.out.box2 0 rfl; obtain ⟨⟨t0, t1, t2, t3⟩, _, tlt⟩ := M2.out.box4 1 rfl) | fail)
      obtain ⟨wr, hwr⟩ : ∃ wr, wr = w3 := ⟨_, rfl⟩
      have MZ := M2
      rw [← hwr] at MZ ⊢
      clear hwr
      obtain ⟨⟨p0, p1⟩, _, plt⟩ := MZ.out.box2 0 rfl
      obtain ⟨⟨q0, q1, q2, q3⟩, _, qlt⟩ := MZ.out.box4 1 rfl
      go_region_held3 (fun w' => w'.cell? ⟨w.heap.size, 0, none⟩ = some (.slice Ab nb cb) ∧ w'.cell? ⟨w.heap.size, 1, none⟩ = some (.slice (some ⟨b, off, none⟩) nn cn) ∧ w'.cell? ⟨w.heap.size + 1, 2, none⟩ = some (.bool x.op) ∧ w'.cell? ⟨w.heap.size + 1, 3, none⟩ = some (.slice A dn dcap) ∧ Held wr w')
        ((repeat' refine And.intro ?_ ?_) <;> first | exact p0 | exact p1 | exact q2 | exact q3 | exact (Held.refl _).drew | exact Held.cell (by assumption) p0 | exact Held.cell (by assumption) p1 | exact Held.cell (by assumption) q2 | exact Held.cell (by assumption) q3 | exact (by assumption))
        (first | (go_at_call 52; refine (vdeltas_any A dn dcap x.ds nb _ (HDS.out.held (MZ.out.held.step (Held.refl _).drew)) HVD.out (by omega)).mono ?_; rintro e w5 ⟨rfl, h5⟩; have k5 : Held wr w5 := (Held.refl _).drew.step h5) | (go_at_call 42; refine (children_any Ab nb cb (some ⟨b, off, none⟩) nn cn T _ _ (HT.out.held (MZ.out.held.step k5)) (by omega)).mono ?_; rintro e w6 ⟨A4, cap4, rfl, hc4, ho4, h6⟩; rw [HLN.out] at hc4 ⊢; have k6 : Held wr w6 := k5.step h6; clear ho4))
      go_wp2
      go_ret
      exact ⟨by simp, MZ.out.held.step k6⟩
end Sn
end Go.Proofs.Ytncgihbnfmpdbaa
