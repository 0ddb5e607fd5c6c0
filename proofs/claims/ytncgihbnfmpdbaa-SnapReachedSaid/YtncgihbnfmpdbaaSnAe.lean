/-
  The law package of chapter 41: its check of fixed results returns true.
-/
import Derived.Test.YtncgihbnfmpdbaaSnAb
import Derived.Test.YtncgihbnfmpdbaaSnAd
set_option linter.unusedVariables false
set_option linter.unusedSimpArgs false
set_option maxRecDepth 100000
namespace Go.Proofs.Ytncgihbnfmpdbaa
open Go.RowKit Go.BigFrame
namespace Sn
/-- The trees that awake meets. -/
structure Story (T0 T1 T2 T3 T4 T5 : Tr) (P1 P2 : ByteArray) : Prop where
  o0 : Ok T0
  o1 : Ok T1
  o2 : Ok T2
  o3 : Ok T3
  o4 : Ok T4
  o5 : Ok T5
  c1 : create T0 (-1) nA = T1 ∧ createE T0 (-1) nA = 0 ∧ createN T0 (-1) nA = 0
  c2 : write T1 0 0 P1 = T2 ∧ writeE T1 0 0 = 0
  c3 : create T2 0 nB = T3 ∧ createE T2 0 nB = 0 ∧ createN T2 0 nB = 1
  c4 : writeE T3 0 1 = 4103
  c5 : write T3 1 1 P2 = T4 ∧ writeE T3 1 1 = 0
  c6 : delete T4 0 = T5 ∧ deleteE T4 0 = 0
  c7 : readR T5 1 0 = (P1, true)
  c8 : findR T5.nodes nB = (1, true)
  c9 : sizeTo T5.nodes T5.nodes.length = 2
theorem story : ∃ T1 T2 T3 T4 T5, Story ⟨blocksTo 1 4, []⟩ T1 T2 T3 T4 T5 (Pl.pageV 1) (Pl.pageV 2) := by
  have hB : blocksTo 1 4 = [Pl.dataV 1 128, Pl.dataV 2 128, Pl.dataV 3 128, Pl.dataV 4 128] := rfl
  have o0 := blocks_ok
  have s1 := Pl.pageV_size 1
  have s2 := Pl.pageV_size 2
  have h0 := ne0
  have h1 := ne1
  rw [hB] at o0 ⊢
  generalize Pl.dataV 1 128 = b0 at *
  generalize Pl.dataV 2 128 = b1 at *
  generalize Pl.dataV 3 128 = b2 at *
  generalize Pl.dataV 4 128 = b3 at *
  generalize Pl.pageV 1 = p at *
  generalize Pl.pageV 2 = q at *
  have o0 : Ok (w0 b0 b1 b2 b3) := o0
  have o1 : Ok (w1 b0 b1 b2 b3) := a1 b0 b1 b2 b3 ▸ create_ok' o0 rfl
  have o2 : Ok (w2 b0 b1 b2 b3 p) := a2 b0 b1 b2 b3 p h0 ▸ write_ok o1 s1
  have o3 : Ok (w3 b0 b1 b2 b3 p) := a3 b0 b1 b2 b3 p ▸ create_ok' o2 rfl
  have o4 : Ok (w4 b0 b1 b2 b3 p q) := a5 b0 b1 b2 b3 p q h1 ▸ write_ok o3 s2
  have o5 : Ok (w5 b0 b1 b2 b3 p q) := a6 b0 b1 b2 b3 p q h0 h1 ▸ delete_ok o4
  exact ⟨_, _, _, _, _, o0, o1, o2, o3, o4, o5, ⟨a1 _ _ _ _, a1e _ _ _ _, a1n _ _ _ _⟩, ⟨a2 _ _ _ _ _ h0, a2e _ _ _ _⟩, ⟨a3 _ _ _ _ _, a3e _ _ _ _ _, a3n _ _ _ _ _⟩, a4e _ _ _ _ _, ⟨a5 _ _ _ _ _ _ h1, a5e _ _ _ _ _⟩, ⟨a6 _ _ _ _ _ _ h0 h1, a6e _ _ _ _ _ _⟩, a7 _ _ _ _ _ _, a8 _ _ _ _ _ _, a9 _ _ _ _ _ _⟩
/-- A tree in a box, turned into one that a callee has made. -/
theorem next_tree {W w wq w' : World} {c : Ck} {H : List Ck} {Ab : Option Addr} {nb cb : Nat} {An : Option Addr} {nn cn : Nat} {T : Tr} {R : List Nr} (M : Mem W w (c :: H)) (k : Held w wq) (hT : TrM wq w' Ab nb cb An nn cn T R) :
    Mem W w' (c :: tRows W Ab nb cb An nn cn T.base R T.nodes) := (TrM.join (M.keep k) hT).sub (List.Sublist.cons_cons c (List.sublist_append_right H _))
theorem st_tree {W w : World} {c : Ck} {Ab : Option Addr} {nb cb : Nat} {An : Option Addr} {nn cn : Nat} {T : Tr} {R : List Nr} (M : Mem W w (c :: tRows W Ab nb cb An nn cn T.base R T.nodes)) (h : NrsE R T.nodes) : TrR w Ab nb An nn T := TrM.tr (W := W) ⟨M.rest, h⟩
/-- A box that holds a tree of the call's own. -/
def InBox (W : World) (tb : Nat) (T : Tr) (w : World) : Prop := ∃ Ab nb cb An nn cn R, NrsE R T.nodes ∧ Mem W w (.box tb #[.slice Ab nb cb, .slice An nn cn] 27 :: tRows W Ab nb cb An nn cn T.base R T.nodes)
theorem InBox.mk {W w : World} {tb : Nat} {T : Tr} {Ab : Option Addr} {nb cb : Nat} {An : Option Addr} {nn cn : Nat} {R : List Nr} (h : NrsE R T.nodes) (M : Mem W w (.box tb #[.slice Ab nb cb, .slice An nn cn] 27 :: tRows W Ab nb cb An nn cn T.base R T.nodes)) : InBox W tb T w := ⟨Ab, nb, cb, An, nn, cn, R, h, M⟩
theorem InBox.put {W w wq : World} {tb : Nat} {v u : Value} {H : List Ck} {T : Tr} {Ab : Option Addr} {nb cb : Nat} {An : Option Addr} {nn cn : Nat} {R : List Nr} {w' : World} (M : Mem W w (.box tb #[v, u] 27 :: H)) (k : Held w wq) (hT : TrM wq w' Ab nb cb An nn cn T R) :
    InBox W tb T ((w'.setCell ⟨tb, 0, none⟩ (.slice Ab nb cb)).setCell ⟨tb, 1, none⟩ (.slice An nn cn)) := InBox.mk hT.eq (((next_tree M k hT).put 0 rfl 0 _).put 0 rfl 1 _)
theorem InBox.keep {W w w' : World} {tb : Nat} {T : Tr} (h : InBox W tb T w) (k : Held w w') : InBox W tb T w' := by
  obtain ⟨Ab, nb, cb, An, nn, cn, R, hE, M⟩ := h
  exact ⟨Ab, nb, cb, An, nn, cn, R, hE, M.keep k⟩
set_option maxHeartbeats 4000000 in
theorem awake_any (w : World) : Calls Try.prog 6 #[] w fun e w' => e = .returned (.bool true) ∧ Held w w' := by
  obtain ⟨T1, T2, T3, T4, T5, ST⟩ := story
  have S := Lib.hid ST
  have HBL := Lib.hid (fun w' => blocks_ex 1 w' (by decide))
  have HP1 := Lib.hid (fun w' => Pl.page_ex 1 w' (by decide))
  have HP2 := Lib.hid (fun w' => Pl.page_ex 2 w' (by decide))
  have s1 := Pl.pageV_size 1
  have s2 := Pl.pageV_size 2
  have hbl := blocksTo_len 1 4
  have HO := Lib.hid blocks_ok
  clear ST
  obtain ⟨P1, hP1⟩ : ∃ q, Pl.pageV 1 = q := ⟨_, rfl⟩
  obtain ⟨P2, hP2⟩ : ∃ q, Pl.pageV 2 = q := ⟨_, rfl⟩
  obtain ⟨B, hB⟩ : ∃ q, blocksTo 1 4 = q := ⟨_, rfl⟩
  rw [hP1] at S HP1 s1
  rw [hP2] at S HP2 s2
  rw [hB] at S HBL hbl HO
  clear hP1 hP2 hB
  go_enter Try.func6, Try.ntmps6
  go_wp2_with fail
  refine (HBL.out _).mono ?_
  rintro e w1 ⟨A0, cap0, rfl, hc0, ho0, h1⟩
  rw [hbl] at ho0 hc0 ⊢
  have M1 := Lib.hid ((Mem.start w).own h1 ho0)
  clear h1 ho0
  go_wp2_with fail
  refine (new_any A0 4 cap0 B _ (Own.reads stC_len (M1.out.row 0 rfl)).1 (fun e => own_nil (e ▸ (M1.out.row 0 rfl))) HO.out).mono ?_
  rintro e w2 ⟨Ab, cb, An, cn, R, rfl, hT⟩
  have HE := Lib.hid hT.eq
  have M2 := Lib.hid ((TrM.join (Mem.of M1.out.held) hT).allocF rfl #[.slice Ab 4 cb, .slice An 0 cn] 27)
  clear hT M1
  obtain ⟨tb, htb⟩ : ∃ q, w2.heap.size = q := ⟨_, rfl⟩
  rw [htb] at M2
  go_wp2_with fail
  clear htb
  refine (create_any Ab 4 cb An 0 cn ⟨B, []⟩ (-1) nA _ (st_tree M2.out HE.out) HO.out (by decide) (by decide)).mono ?_
  rintro e w3 ⟨Ab1, cb1, An1, nn1, cn1, R1, rfl, hT⟩
  rw [S.out.c1.1] at hT
  rw [S.out.c1.2.1, S.out.c1.2.2]
  have IB := Lib.hid (InBox.put M2.out (Held.refl _) hT)
  have M3 := Lib.hid (next_tree M2.out (Held.refl _) hT)
  clear hT M2 HE
  obtain ⟨⟨p0, p1⟩, ⟨pf0, pf1⟩, plt⟩ := M3.out.box2 0 rfl
  go_wp2_with fail
  obtain ⟨w4, hw4⟩ : ∃ q, q = (w3.setCell ⟨tb, 0, none⟩ (.slice Ab1 4 cb1)).setCell ⟨tb, 1, none⟩ (.slice An1 nn1 cn1) := ⟨_, rfl⟩
  rw [← hw4] at IB ⊢
  clear hw4 p0 p1 pf0 pf1 plt M3
  obtain ⟨Ab, nb, cb, An, nn, cn, R, he, hM⟩ := IB.out
  have HE := Lib.hid he
  have M := Lib.hid hM
  clear he hM
  obtain ⟨⟨p0, p1⟩, ⟨pf0, pf1⟩, plt⟩ := M.out.box2 0 rfl
  go_cut [5] (fun e wx => e = .int .i64 0 ∧ InBox w tb T2 wx)
  case first =>
    go_region_with (first | (go_at_call 13; refine (HP1.out _).mono ?_; rintro e w5 ⟨rfl, h5⟩; have M5 := Lib.hid (M.out.drew.keep h5); clear p0 p1 pf0 pf1 plt; obtain ⟨⟨p0, p1⟩, ⟨pf0, pf1⟩, plt⟩ := M5.out.box2 0 rfl) | (go_at_call 18; refine (write_any Ab nb cb An nn cn T1 0 0 P1 _ (st_tree M5.out HE.out) S.out.o1 s1).mono ?_; rintro e w6 ⟨Ab2, cb2, An2, cn2, R2, rfl, hT⟩; rw [S.out.c2.1] at hT; rw [S.out.c2.2]; have HT := Lib.hid hT; have M6 := Lib.hid (next_tree M5.out (Held.refl _) hT); clear hT p0 p1 pf0 pf1 plt; obtain ⟨⟨p0, p1⟩, ⟨pf0, pf1⟩, plt⟩ := M6.out.box2 0 rfl))
    all_goals
      go_wp2
      go_meet
      case rel => exact ⟨rfl, InBox.put M5.out (Held.refl _) HT.out⟩
  case rest =>
    obtain ⟨rfl, IB⟩ := hcut
    obtain ⟨Ab, nb, cb, An, nn, cn, R, he, hM⟩ := IB
    have HE := Lib.hid he
    have M := Lib.hid hM
    clear he hM
    obtain ⟨⟨p0, p1⟩, ⟨pf0, pf1⟩, plt⟩ := M.out.box2 0 rfl
    go_wp2_with fail
    refine (create_any Ab nb cb An nn cn T2 0 nB _ (st_tree M.out HE.out) S.out.o2 (by decide) (by decide)).mono ?_
    rintro e w3 ⟨Ab1, cb1, An1, nn1, cn1, R1, rfl, hT⟩
    rw [S.out.c3.1] at hT
    rw [S.out.c3.2.1, S.out.c3.2.2]
    have IB := Lib.hid (InBox.put M.out (Held.refl _) hT)
    have M3 := Lib.hid (next_tree M.out (Held.refl _) hT)
    clear hT p0 p1 pf0 pf1 plt M HE
    obtain ⟨⟨p0, p1⟩, ⟨pf0, pf1⟩, plt⟩ := M3.out.box2 0 rfl
    go_wp2_with fail
    obtain ⟨w4, hw4⟩ : ∃ q, q = (w3.setCell ⟨tb, 0, none⟩ (.slice Ab1 nb cb1)).setCell ⟨tb, 1, none⟩ (.slice An1 nn1 cn1) := ⟨_, rfl⟩
    rw [← hw4] at IB ⊢
    clear hw4 p0 p1 pf0 pf1 plt M3
    obtain ⟨Ab, nb, cb, An, nn, cn, R, he, hM⟩ := IB.out
    have HE := Lib.hid he
    have M := Lib.hid hM
    clear he hM
    obtain ⟨⟨p0, p1⟩, ⟨pf0, pf1⟩, plt⟩ := M.out.box2 0 rfl
    have hl0 := plt
    have hl1 : ¬ tb = w4.heap.size := by omega
    go_cut [9] (fun e wx => e = .int .i64 4103 ∧ InBox w tb T3 wx)
    case first =>
      go_region_with (first
        | (go_at_call 13; refine (HP1.out _).mono ?_; rintro e w5 ⟨rfl, h5⟩; have M5 := Lib.hid (M.out.drew.keep h5); clear p0 p1 pf0 pf1 plt; obtain ⟨⟨p0, p1⟩, ⟨pf0, pf1⟩, plt⟩ := M5.out.box2 0 rfl; have hl2 : ¬ tb = w5.heap.size := by omega)
        | (go_at_call 13; refine (HP1.out _).mono ?_; rintro e w5 ⟨rfl, h5⟩; have M5 := Lib.hid ((M.out.drew.allocF (b := w4.heap.size) (by simp) #[.slice none 0 0, .slice none 0 0] 27).keep h5); clear p0 p1 pf0 pf1 plt; obtain ⟨⟨p0, p1⟩, ⟨pf0, pf1⟩, plt⟩ := M5.out.box2 1 rfl; obtain ⟨⟨b0, b1⟩, ⟨bf0, bf1⟩, blt⟩ := M5.out.box2 0 rfl)
        | (go_at_call 18; refine (write_any Ab nb cb An nn cn T3 0 1 P1 _ (st_tree M5.out HE.out) S.out.o3 s1).mono ?_; rintro e w6 ⟨Ab2, cb2, An2, cn2, R2, rfl, hT⟩; rw [S.out.c4]; have M6 := Lib.hid (M5.out.keep hT.held); clear hT; clear p0 p1 pf0 pf1 plt; obtain ⟨⟨p0, p1⟩, ⟨pf0, pf1⟩, plt⟩ := M6.out.box2 0 rfl; have hl3 : ¬ tb = w6.heap.size := by omega)
        | (go_at_call 18; have M5b := Lib.hid (M5.out.allocF rfl #[.slice none 0 0, .slice none 0 0] 27); refine (write_any Ab nb cb An nn cn T3 0 1 P1 _ (TrM.tr (W := w) ⟨M5b.out.rest.rest, HE.out⟩) S.out.o3 s1).mono ?_; rintro e w6 ⟨Ab2, cb2, An2, cn2, R2, rfl, hT⟩; rw [S.out.c4]; have M6 := Lib.hid (M5b.out.keep hT.held); clear hT; clear p0 p1 pf0 pf1 plt; obtain ⟨⟨p0, p1⟩, ⟨pf0, pf1⟩, plt⟩ := M6.out.box2 1 rfl; obtain ⟨⟨b0, b1⟩, ⟨bf0, bf1⟩, blt⟩ := M6.out.box2 0 rfl)
        | (go_at_call 18; refine (write_any Ab nb cb An nn cn T3 0 1 P1 _ (TrM.tr (W := w) ⟨M5.out.rest.rest, HE.out⟩) S.out.o3 s1).mono ?_; rintro e w6 ⟨Ab2, cb2, An2, cn2, R2, rfl, hT⟩; rw [S.out.c4]; have M6 := Lib.hid (M5.out.keep hT.held); clear hT; clear p0 p1 pf0 pf1 plt; clear b0 b1 bf0 bf1 blt; obtain ⟨⟨p0, p1⟩, ⟨pf0, pf1⟩, plt⟩ := M6.out.box2 1 rfl; obtain ⟨⟨b0, b1⟩, ⟨bf0, bf1⟩, blt⟩ := M6.out.box2 0 rfl))
      all_goals
        go_wp2
        go_meet
        case rel => first | exact ⟨rfl, InBox.mk HE.out (M6.out.skip _)⟩ | exact ⟨rfl, InBox.mk HE.out (((M6.out.allocF rfl #[.slice none 0 0, .slice none 0 0] 27).put 0 rfl 0 _).put 0 rfl 1 _).rest⟩ | exact ⟨rfl, InBox.mk HE.out ((M6.out.put 0 rfl 0 _).put 0 rfl 1 _).rest⟩
    case rest =>
      obtain ⟨rfl, IB⟩ := hcut
      obtain ⟨Ab, nb, cb, An, nn, cn, R, he, hM⟩ := IB
      have HE := Lib.hid he
      have M := Lib.hid hM
      clear he hM
      obtain ⟨⟨p0, p1⟩, ⟨pf0, pf1⟩, plt⟩ := M.out.box2 0 rfl
      go_wp2_with fail
      go_cut [10] (fun e wx => e = .int .i64 0 ∧ InBox w tb T4 wx)
      case first =>
        go_region_with (first | (go_at_call 13; refine (HP2.out _).mono ?_; rintro e w5 ⟨rfl, h5⟩; have M5 := Lib.hid (M.out.drew.keep h5); clear p0 p1 pf0 pf1 plt; obtain ⟨⟨p0, p1⟩, ⟨pf0, pf1⟩, plt⟩ := M5.out.box2 0 rfl) | (go_at_call 18; refine (write_any Ab nb cb An nn cn T3 1 1 P2 _ (st_tree M5.out HE.out) S.out.o3 s2).mono ?_; rintro e w6 ⟨Ab2, cb2, An2, cn2, R2, rfl, hT⟩; rw [S.out.c5.1] at hT; rw [S.out.c5.2]; have HT := Lib.hid hT; have M6 := Lib.hid (next_tree M5.out (Held.refl _) hT); clear hT p0 p1 pf0 pf1 plt; obtain ⟨⟨p0, p1⟩, ⟨pf0, pf1⟩, plt⟩ := M6.out.box2 0 rfl))
        all_goals
          go_wp2
          go_meet
          case rel => exact ⟨rfl, InBox.put M5.out (Held.refl _) HT.out⟩
      case rest =>
        obtain ⟨rfl, IB⟩ := hcut
        obtain ⟨Ab, nb, cb, An, nn, cn, R, he, hM⟩ := IB
        have HE := Lib.hid he
        have M := Lib.hid hM
        clear he hM
        obtain ⟨⟨p0, p1⟩, ⟨pf0, pf1⟩, plt⟩ := M.out.box2 0 rfl
        go_wp2_with fail
        refine (delete_any Ab nb cb An nn cn T4 0 _ (st_tree M.out HE.out) S.out.o4).mono ?_
        rintro e w3 ⟨Ab1, cb1, An1, cn1, R1, rfl, hT⟩
        rw [S.out.c6.1] at hT
        rw [S.out.c6.2]
        have HE1 := Lib.hid hT.eq
        have M3 := Lib.hid (next_tree M.out (Held.refl _) hT)
        have M4 : Hid (Mem w ((w3.setCell ⟨tb, 0, none⟩ (.slice Ab1 nb cb1)).setCell ⟨tb, 1, none⟩ (.slice An1 nn cn1)) (.box tb #[.slice Ab1 nb cb1, .slice An1 nn cn1] 27 :: tRows w Ab1 nb cb1 An1 nn cn1 T5.base R1 T5.nodes)) := (M3.out.put 0 rfl 0 _).put 0 rfl 1 _
        clear hT p0 p1 pf0 pf1 plt M HE
        obtain ⟨⟨p0, p1⟩, ⟨pf0, pf1⟩, plt⟩ := M3.out.box2 0 rfl
        go_wp2_with fail
        obtain ⟨w4, hw4⟩ : ∃ q, q = (w3.setCell ⟨tb, 0, none⟩ (.slice Ab1 nb cb1)).setCell ⟨tb, 1, none⟩ (.slice An1 nn cn1) := ⟨_, rfl⟩
        rw [← hw4] at M4 ⊢
        clear hw4 p0 p1 pf0 pf1 plt M3
        obtain ⟨⟨p0, p1⟩, ⟨pf0, pf1⟩, plt⟩ := M4.out.box2 0 rfl
        refine (read_any Ab1 nb cb1 An1 nn cn1 T5 1 0 _ (st_tree M4.out HE1.out) S.out.o5).mono ?_
        rw [S.out.c7]
        rintro e w5 ⟨rfl, h5⟩
        have M5 := Lib.hid (M4.out.keep h5)
        clear h5 p0 p1 pf0 pf1 plt
        obtain ⟨⟨p0, p1⟩, ⟨pf0, pf1⟩, plt⟩ := M5.out.box2 0 rfl
        go_wp2_with fail
        refine (find_any Ab1 nb cb1 An1 nn cn1 T5 nB _ (st_tree M5.out HE1.out) (by have := S.out.o5.nods; rw [(st_tree M5.out HE1.out).nn] at this; omega) (by decide)).mono ?_
        rw [S.out.c8]
        rintro e w6 ⟨rfl, h6⟩
        have M6 := Lib.hid (M5.out.keep h6)
        clear h6 p0 p1 pf0 pf1 plt
        obtain ⟨⟨p0, p1⟩, ⟨pf0, pf1⟩, plt⟩ := M6.out.box2 0 rfl
        have hpp : (P1.toList == P1.toList) = true := by simp
        go_wp2_with (first | (go_at_call 13; refine (HP1.out _).mono ?_; rintro e w7 ⟨rfl, h7⟩; have M7 := Lib.hid (M6.out.keep h7); clear p0 p1 pf0 pf1 plt; obtain ⟨⟨p0, p1⟩, ⟨pf0, pf1⟩, plt⟩ := M7.out.box2 0 rfl) | (go_at_call 21; refine (size_any Ab1 nb cb1 An1 nn cn1 T5 _ (st_tree M7.out HE1.out) S.out.o5).mono ?_; rw [S.out.c9]; rintro e w8 ⟨rfl, h8⟩; have M8 := Lib.hid (M7.out.keep h8)))
        go_ret
        exact ⟨rfl, M8.out.held⟩
end Sn
end Go.Proofs.Ytncgihbnfmpdbaa
