/-
  Plain laws: act keeps a tree valid and lean; what the nodes see behind it (chapter 41).
-/
import Derived.Test.YtncgihbnfmpdbaaSnAa
set_option linter.unusedVariables false
set_option linter.unusedSimpArgs false
namespace Go.Proofs.Ytncgihbnfmpdbaa.Sn
theorem kept_ok {T : Tr} {c p : List Dl} {up : Int} (hc : DsOk c T.base.length) (hp : DsOk p T.base.length) : DsOk (kept T c p up) T.base.length := by
  refine ⟨srt_filter (merge_srt c p hc.sorted hp.sorted) _, fun d hd => ?_⟩
  rcases merge_mem c p d (List.mem_filter.1 hd).1 with h | h
  · exact hc.all d h
  · exact hp.all d h
theorem kid_none {T : Tr} {n : Nat} (h : kids T.nodes n = []) : Kid T n none := by
  refine ⟨fun i y hy hk => ?_, fun k hk => by cases hk⟩
  have : (i : Int) ∈ kids T.nodes n := kids_mem.2 ⟨i, y, rfl, hy, hk⟩
  rw [h] at this; cases this
theorem kid_one {T : Tr} (hT : Ok T) {n j : Nat} {x y : Nd} (hx : T.nodes[n]? = some x) (h : kids T.nodes n = [(j : Int)]) (hy : T.nodes[j]? = some y) : Kid T n (some (j, kept T y.ds x.ds x.par)) := by
  refine ⟨fun i z hz hk => ⟨_, rfl, ?_⟩, fun k hk => ?_⟩
  · have : (i : Int) ∈ kids T.nodes n := kids_mem.2 ⟨i, z, rfl, hz, hk⟩
    rw [h, List.mem_singleton] at this
    show i = j
    omega
  · injection hk with hk
    subst hk
    obtain ⟨i, z, e, hz, hkz⟩ := kids_mem.1 (show (j : Int) ∈ kids T.nodes n by rw [h]; simp)
    obtain rfl : j = i := by omega
    exact ⟨z, hz, hkz, kept_ok (hT.node _ y hy).ds (hT.node n x hx).ds⟩
theorem delete_facts {T : Tr} (h : Ok T) {n : Int} (hE : deleteE T n = 0) : ∃ (p : Nat) (x : Nd) (ko : Option (Nat × List Dl)), n = p ∧ T.nodes[p]? = some x ∧ live x = true ∧ delete T n = ⟨T.base, del T.nodes p x.par ko⟩ ∧ Kid T p ko ∧ (∀ k y, ko = some k → T.nodes[k.1]? = some y → k.2 = kept T y.ds x.ds x.par) := by
  have hex : ex T.nodes n = true := by
    cases he : ex T.nodes n
    · rw [deleteE_no he] at hE; cases hE
    · rfl
  obtain ⟨p, x, rfl, hx, hl⟩ := ex_iff.1 hex
  have hk : ¬ 1 < (kids T.nodes p).length := by
    intro q
    rw [deleteE_yes hex, if_pos q] at hE; cases hE
  have hd := delete_at hx hE
  cases hks : kids T.nodes p with
  | nil =>
    rw [delKo_none hks] at hd
    exact ⟨p, x, none, rfl, hx, hl, hd, kid_none hks, fun k y e => by cases e⟩
  | cons a l =>
    have hl0 : l = [] := by
      rw [hks] at hk
      cases l with
      | nil => rfl
      | cons b l => simp at hk
    subst hl0
    obtain ⟨j, y, rfl, hy, _⟩ := kids_mem.1 (show a ∈ kids T.nodes p by rw [hks]; simp)
    rw [delKo_some hks hy] at hd
    refine ⟨p, x, _, rfl, hx, hl, hd, kid_one h hx hks hy, fun k z e hz => ?_⟩
    injection e with e
    subst e
    simp only at hz
    rw [hy] at hz; injection hz with hz; subst hz; rfl
theorem write_facts {T : Tr} (h : Ok T) {n b : Int} (s : ByteArray) (hE : writeE T n b = 0) : ∃ (p : Nat) (x : Nd), n = p ∧ T.nodes[p]? = some x ∧ live x = true ∧ x.op = true ∧ 0 ≤ b ∧ b < T.base.length ∧ write T n b s = ⟨T.base, setDs T.nodes p (putD x.ds b s (decide (¬ s = sees T x.par b)))⟩ := by
  by_cases hc : ex T.nodes n = true ∧ 0 ≤ b ∧ b < T.base.length
  · obtain ⟨hex, h0, h1⟩ := hc
    obtain ⟨p, x, rfl, hx, hl⟩ := ex_iff.1 hex
    have := writeE_at hx hl h0 h1
    refine ⟨p, x, rfl, hx, hl, ?_, h0, h1, write_at hx hE⟩
    cases ho : x.op
    · rw [this, ho] at hE; cases hE
    · rfl
  · rw [writeE_no hc] at hE; cases hE
theorem create_no {T : Tr} {par : Int} {nm : ByteArray} (h : ¬ createE T par nm = 0) : create T par nm = T := if_neg h
theorem write_no {T : Tr} {n b : Int} {s : ByteArray} (h : ¬ writeE T n b = 0) : write T n b s = T := if_neg h
theorem delete_no {T : Tr} {n : Int} (h : ¬ deleteE T n = 0) : delete T n = T := if_neg h
theorem create_yes {T : Tr} {par : Int} {nm : ByteArray} (h : createE T par nm = 0) : create T par nm = ⟨T.base, created T.nodes par nm⟩ := if_pos h
theorem par_range {T : Tr} {par : Int} (h : par = -1 ∨ ex T.nodes par = true) : -1 ≤ par ∧ par < T.nodes.length := by
  rcases h with rfl | h
  · omega
  · obtain ⟨i, x, rfl, hx, _⟩ := ex_iff.1 h
    have := (List.getElem?_eq_some_iff.1 hx).1; omega
theorem create_ok' {T : Tr} {par : Int} {nm : ByteArray} (h : Ok T) (hn : nm.size = 1) : Ok (create T par nm) := by
  by_cases e : createE T par nm = 0
  · obtain ⟨h1, h2, h3⟩ := createE_ok e
    rw [create_yes e]
    exact create_ok h h1 h2 h3 (by omega) (by omega)
  · rw [create_no e]; exact h
theorem write_ok {T : Tr} {n b : Int} {s : ByteArray} (h : Ok T) (hs : s.size = 128) : Ok (write T n b s) := by
  by_cases e : writeE T n b = 0
  · obtain ⟨p, x, rfl, hx, hl, ho, h0, h1, hw⟩ := write_facts h s e
    rw [hw]
    exact setDs_ok h hx hl (putD_ok (h.node p x hx).ds h0 h1 hs _)
  · rw [write_no e]; exact h
theorem delete_ok {T : Tr} {n : Int} (h : Ok T) : Ok (delete T n) := by
  by_cases e : deleteE T n = 0
  · obtain ⟨p, x, ko, rfl, hx, hl, hd, hk, _⟩ := delete_facts h e
    rw [hd]; exact del_ok h hx hl hk
  · rw [delete_no e]; exact h
theorem act_ok {T : Tr} (h : Ok T) (v : Nat) : Ok (actR T v).T := by
  unfold actR
  split
  · exact create_ok' h rfl
  · split
    · exact delete_ok h
    · exact write_ok h (Pl.pageV_size _)
/-- No node has a delta that is what its parent sees. -/
def LeanT (T : Tr) : Prop := ∀ (i : Nat) (x : Nd), T.nodes[i]? = some x → ∀ d ∈ x.ds, ¬ d.s = sees T x.par d.b
/-- The parent of a node sees what it saw. -/
theorem sees_int {T U : Tr} {p c : Int} (hB : U.base = T.base) (h0 : -1 ≤ p) (h1 : ∀ m : Nat, p = m → sees U m c = sees T m c) : sees U p c = sees T p c := by
  by_cases hneg : p < 0
  · rw [sees_base _ _ hneg, sees_base _ _ hneg]; unfold base; rw [hB]
  · obtain ⟨m, rfl⟩ := Int.eq_ofNat_of_zero_le (by omega : 0 ≤ p)
    exact h1 m rfl
theorem create_lean {T : Tr} {par : Int} {nm : ByteArray} (h : Ok T) (hL : LeanT T) (hn : nm.size = 1) : LeanT (create T par nm) := by
  by_cases e : createE T par nm = 0
  · have h' := create_ok' (par := par) h hn
    obtain ⟨h1, h2, h3⟩ := createE_ok e
    have hpr := par_range h1
    rw [create_yes e] at h' ⊢
    intro i y hy d hd
    rcases created_inv hy with ⟨x, hx, rfl⟩ | ⟨rfl, rfl⟩
    · obtain ⟨e1, e2, e3⟩ := oldC_same par i x
      rw [e3] at hd
      rw [e2]
      have hq := ok_par_lt h hx
      have hi := (List.getElem?_eq_some_iff.1 hx).1
      rw [sees_int (T := T) (U := ⟨T.base, created T.nodes par nm⟩) rfl hq.1 (fun m hm => create_sees h h' hpr.2 hpr.1 d.b m (by omega))]
      exact hL i x hx d hd
    · cases hd
  · rw [create_no e]; exact hL
theorem putD_mem {ds : List Dl} {b : Int} {s : ByteArray} {is : Bool} {d : Dl} (h : d ∈ putD ds b s is) : d ∈ ds ∨ (is = true ∧ d = ⟨b, s⟩) := by
  unfold putD at h
  rcases List.mem_append.1 h with h | h
  · rcases List.mem_append.1 h with h | h
    · exact .inl (below_mem.1 h).1
    · cases is
      · simp at h
      · simp only [if_true, List.mem_singleton] at h; exact .inr ⟨rfl, h⟩
  · exact .inl (above_mem.1 h).1
theorem write_lean {T : Tr} {n b : Int} {s : ByteArray} (h : Ok T) (hL : LeanT T) (hs : s.size = 128) : LeanT (write T n b s) := by
  by_cases e : writeE T n b = 0
  · have h' := write_ok (n := n) (b := b) h hs
    obtain ⟨p, x, rfl, hx, hl, ho, h0, h1, hw⟩ := write_facts h s e
    have hno := open_no h hx hl ho
    rw [hw] at h' ⊢
    intro i y hy d hd
    obtain ⟨z, hz, rfl⟩ := setDs_inv hy
    have hq := ok_par_lt h hz
    have hi := (List.getElem?_eq_some_iff.1 hz).1
    have hpar : ∀ c, sees ⟨T.base, setDs T.nodes p (putD x.ds b s (decide (¬ s = sees T x.par b)))⟩ z.par c = sees T z.par c := fun c =>
      sees_int (T := T) rfl hq.1 (fun m hm => setDs_sees h h' hno c m (by omega) (fun e => hno i z hz (by rw [hm, e])))
    by_cases hpi : p = i
    · subst hpi
      rw [hx] at hz; injection hz with hz; subst hz
      rw [if_pos rfl] at hd ⊢
      simp only at hd ⊢
      rw [hpar]
      rcases putD_mem hd with hd | ⟨his, rfl⟩
      · exact hL p x hx d hd
      · simpa using his
    · rw [if_neg hpi] at hd ⊢
      rw [hpar]
      exact hL i z hz d hd
  · rw [write_no e]; exact hL
theorem delete_lean {T : Tr} {n : Int} (h : Ok T) (hL : LeanT T) : LeanT (delete T n) := by
  by_cases e : deleteE T n = 0
  · obtain ⟨p, x, ko, rfl, hx, hl, hd, hk, hkk⟩ := delete_facts h e
    have hs := fun c => del_sees h hx hl hk hkk c
    have hxp := ok_par_lt h hx
    have hpl := (List.getElem?_eq_some_iff.1 hx).1
    rw [hd]
    intro i y hy d hdd
    obtain ⟨z, hz, rfl⟩ := del_inv hy
    have hzp := ok_par_lt h hz
    have hzl := (List.getElem?_eq_some_iff.1 hz).1
    by_cases hin : i = p
    · subst hin
      unfold delF at hdd; rw [if_pos rfl] at hdd; cases hdd
    · by_cases e2 : ∃ k, ko = some k ∧ i = k.1
      · obtain ⟨k, ek, rfl⟩ := e2
        subst ek
        have hkd := hkk k z rfl hz
        rw [delF_kid hin] at hdd ⊢
        simp only at hdd ⊢
        rw [sees_int (T := T) (U := ⟨T.base, del T.nodes p x.par (some k)⟩) rfl hxp.1 (fun m hm => hs d.b m (by omega) (by omega))]
        rw [hkd] at hdd
        simpa using (List.mem_filter.1 hdd).2
      · obtain ⟨f1, f2⟩ := delF_par (N := T.nodes) (up := x.par) (ko := ko) (y := z) hin (fun k ek eq => e2 ⟨k, ek, eq⟩)
        rw [f2] at hdd
        rw [f1]
        rw [sees_int (T := T) (U := ⟨T.base, del T.nodes p x.par ko⟩) rfl hzp.1 (fun m hm => hs d.b m (by omega) (fun q => e2 ?_))]
        · exact hL i z hz d hdd
        · have hld : live z = true := by
            rw [live_iff]; intro q2
            have := ((h.node i z hz).dead q2).1; omega
          exact hk.only i z hz (by unfold isKid; rw [hld, hm, q]; simp)
  · rw [delete_no e]; exact hL
theorem act_lean {T : Tr} (h : Ok T) (hL : LeanT T) (v : Nat) : LeanT (actR T v).T := by
  unfold actR
  split
  · exact create_lean h hL rfl
  · split
    · exact delete_lean h hL
    · exact write_lean h hL (Pl.pageV_size _)
theorem blocks_ok : Ok ⟨blocksTo 1 4, []⟩ := by
  refine ok_new (by rw [blocksTo_len]; decide) (by rw [blocksTo_len]; decide) fun s hs => ?_
  unfold blocksTo at hs
  obtain ⟨i, _, rfl⟩ := List.mem_map.1 hs
  exact Pl.dataV_size _ _
end Go.Proofs.Ytncgihbnfmpdbaa.Sn
