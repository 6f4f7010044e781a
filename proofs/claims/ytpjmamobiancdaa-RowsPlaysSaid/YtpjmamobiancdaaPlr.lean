/- The plain law: the rows of a map and the reference's sorted rows. Conditions: none. -/
import Derived.Test.YtpjmamobiancdaaFi
import Derived.Test.YtpjmamobiancdaaLs
import Derived.Test.YtpjmamobiancdaaIn
namespace Go.Proofs.Ytpjmamobiancdaa
open Go.RowKit Go.Maps
def rowsOf (l : List (Int × X)) : List Rw := l.map (fun p => p.2.1)
/-- The map's rows, each at its own key, and the reference's list: the same rows, rising there. -/
structure Rel (l : List (Int × X)) (M : List Rw) : Prop where
  key : ∀ p ∈ l, p.1 = p.2.1.tx
  nod : (l.map (·.1)).Nodup
  perm : M.Perm (rowsOf l)
  up : M.Pairwise (fun a b => a.tx < b.tx)
theorem Rel.nil : Rel [] [] := ⟨by simp, by simp, by simp [rowsOf], List.Pairwise.nil⟩
theorem Rel.keys {l : List (Int × X)} {M : List Rw} (h : Rel l M) : l.map (·.1) = (rowsOf l).map Rw.tx := by
  unfold rowsOf
  rw [List.map_map]
  exact List.map_congr_left (fun p hp => h.key p hp)
theorem Rel.len {l : List (Int × X)} {M : List Rw} (h : Rel l M) : M.length = l.length := by
  rw [h.perm.length_eq]
  simp [rowsOf]
theorem findI_take (M : List Rw) (n : Int) : ∀ r ∈ M.take (findI M n), r.tx < n := by
  induction M with
  | nil => simp
  | cons a M ih =>
    unfold findI
    split
    · intro r hr
      rw [List.take_succ_cons] at hr
      rcases List.mem_cons.1 hr with rfl | hr
      · assumption
      · exact ih r hr
    · simp
theorem findI_drop {M : List Rw} (h : M.Pairwise (fun a b => a.tx < b.tx)) (n : Int) : ∀ r ∈ M.drop (findI M n), n ≤ r.tx := by
  induction M with
  | nil => simp
  | cons a M ih =>
    obtain ⟨h1, h2⟩ := List.pairwise_cons.1 h
    unfold findI
    split
    · rw [List.drop_succ_cons]
      exact ih h2
    · intro r hr
      rw [List.drop_zero] at hr
      rcases List.mem_cons.1 hr with rfl | hr
      · omega
      · have := h1 r hr
        omega
theorem thereB_iff {M : List Rw} (_h : M.Pairwise (fun a b => a.tx < b.tx)) (n : Int) : thereB M n = true ↔ ∃ r, M[findI M n]? = some r ∧ r.tx = n := by
  unfold thereB
  cases hg : M[findI M n]? with
  | none => simp
  | some r => simp
theorem thereB_mem {M : List Rw} (h : M.Pairwise (fun a b => a.tx < b.tx)) (n : Int) : thereB M n = true ↔ n ∈ M.map Rw.tx := by
  rw [thereB_iff h]
  constructor
  · rintro ⟨r, hr, rfl⟩
    exact List.mem_map.2 ⟨r, List.mem_of_getElem? hr, rfl⟩
  · intro hm
    obtain ⟨r, hr, rfl⟩ := List.mem_map.1 hm
    have hr' := hr
    rw [← List.take_append_drop (findI M r.tx) M] at hr'
    rcases List.mem_append.1 hr' with hr' | hr'
    · have := findI_take M r.tx r hr'
      omega
    · have hd := findI_drop h r.tx
      have hp : (M.drop (findI M r.tx)).Pairwise (fun a b => a.tx < b.tx) := h.sublist (List.drop_sublist _ _)
      cases hD : M.drop (findI M r.tx) with
      | nil => rw [hD] at hr'; simp at hr'
      | cons a D =>
        rw [hD] at hr' hd hp
        have hget : M[findI M r.tx]? = some a := by
          have := congrArg (fun l : List Rw => l[0]?) hD
          simpa [List.getElem?_drop] using this
        refine ⟨a, hget, ?_⟩
        have h1 := hd a (List.mem_cons_self ..)
        rcases List.mem_cons.1 hr' with rfl | hr2
        · rfl
        · have := (List.pairwise_cons.1 hp).1 r hr2
          omega
theorem Rel.has {l : List (Int × X)} {M : List Rw} (h : Rel l M) (n : Int) : hasX l n = thereB M n := by
  rw [Bool.eq_iff_iff, thereB_mem h.up]
  unfold hasX
  rw [mget_isSome, h.keys]
  exact (h.perm.map Rw.tx).symm.mem_iff
theorem mget_of_mem {l : List (Int × X)} (hn : (l.map (·.1)).Nodup) {p : Int × X} (hp : p ∈ l) : mget l p.1 = some p.2 := by
  obtain ⟨j, hj⟩ := List.getElem?_of_mem hp
  exact lookup_of_getElem? hn (x := p.1) (v := p.2) hj
theorem Rel.look {l : List (Int × X)} {M : List Rw} (h : Rel l M) {r : Rw} (hr : r ∈ M) : (lookX l r.tx).1 = r := by
  obtain ⟨p, hp, rfl⟩ := List.mem_map.1 (h.perm.subset hr)
  have := mget_of_mem h.nod hp
  rw [h.key p hp] at this
  unfold lookX
  rw [this]
  rfl
theorem Rel.all {l : List (Int × X)} {M : List Rw} (h : Rel l M) : (sortI (l.map (·.1))).map (fun k => (lookX l k).1) = M := by
  have hs : sortI (l.map (·.1)) = M.map Rw.tx := by
    have h1 : (sortI (l.map (·.1))).Perm (M.map Rw.tx) := by
      unfold sortI
      refine (List.mergeSort_perm _ _).trans ?_
      rw [h.keys]
      exact (h.perm.map Rw.tx).symm
    refine h1.eq_of_pairwise (le := fun a b => decide (a ≤ b) = true) (fun a b _ _ h1 h2 => ?_) ?_ ?_
    · simp only [decide_eq_true_eq] at h1 h2
      omega
    · unfold sortI
      exact List.pairwise_mergeSort (fun a b c h1 h2 => by simp only [decide_eq_true_eq] at *; omega) (fun a b => by simp only [Bool.or_eq_true, decide_eq_true_eq]; omega) _
    · refine List.pairwise_map.2 (h.up.imp (fun h => ?_))
      simp only [decide_eq_true_eq]
      omega
  rw [hs, List.map_map]
  conv => rhs; rw [← List.map_id M]
  exact List.map_congr_left (fun r hr => h.look hr)
theorem Rel.least {l : List (Int × X)} {M : List Rw} (h : Rel l M) : lsOf (l.map (fun p => p.2.1)) = lsOf M := (ls_perm h.perm 0).symm
theorem Rel.look_there {l : List (Int × X)} {M : List Rw} (h : Rel l M) {n : Int} (ht : thereB M n = true) : M[findI M n]? = some (lookX l n).1 := by
  obtain ⟨r, hr, hrn⟩ := (thereB_iff h.up n).1 ht
  have := h.look (List.mem_of_getElem? hr)
  rw [hrn] at this
  rw [hr, this]
theorem up_insert {M : List Rw} (h : M.Pairwise (fun a b => a.tx < b.tx)) {r : Rw} (hn : thereB M r.tx = false) : (M.take (findI M r.tx) ++ [r] ++ M.drop (findI M r.tx)).Pairwise (fun a b => a.tx < b.tx) := by
  have h1 := findI_take M r.tx
  have h2 := findI_drop h r.tx
  have h3 : ∀ s ∈ M.drop (findI M r.tx), r.tx < s.tx := by
    intro s hs
    have := h2 s hs
    rcases Int.lt_or_eq_of_le this with h4 | h4
    · exact h4
    · exfalso
      have : thereB M r.tx = true := (thereB_mem h r.tx).2 (by rw [h4]; exact List.mem_map.2 ⟨s, List.mem_of_mem_drop hs, rfl⟩)
      rw [this] at hn
      cases hn
  rw [List.append_assoc, List.pairwise_append]
  refine ⟨h.sublist (List.take_sublist _ _), ?_, ?_⟩
  · rw [List.singleton_append, List.pairwise_cons]
    exact ⟨h3, h.sublist (List.drop_sublist _ _)⟩
  · intro a ha b hb
    have h4 := h1 a ha
    rw [List.singleton_append] at hb
    rcases List.mem_cons.1 hb with rfl | hb
    · exact h4
    · have := h2 b hb
      omega
theorem Rel.add {l : List (Int × X)} {M : List Rw} (h : Rel l M) {x : X} (hn : thereB M x.1.tx = false) : Rel (mput l x.1.tx x) (M.take (findI M x.1.tx) ++ [x.1] ++ M.drop (findI M x.1.tx)) := by
  have hno : ¬ x.1.tx ∈ l.map (·.1) := by
    rw [← mget_isSome]
    have := h.has x.1.tx
    unfold hasX at this
    rw [this, hn]
    simp
  refine ⟨fun p hp => ?_, mput_nodup h.nod, ?_, up_insert h.up hn⟩
  · rcases mem_mput hp with hp | rfl
    · exact h.key p hp
    · rfl
  · unfold mput rowsOf
    rw [if_neg hno, List.map_append, List.append_assoc]
    have h1 : (M.take (findI M x.1.tx) ++ ([x.1] ++ M.drop (findI M x.1.tx))).Perm (M ++ [x.1]) := by
      conv => rhs; rw [← List.take_append_drop (findI M x.1.tx) M]
      rw [List.append_assoc]
      exact List.Perm.append_left _ List.perm_append_comm
    exact h1.trans (List.Perm.append_right _ h.perm)
theorem perm_at {α : Type} {l : List α} {i : Nat} {a : α} (h : l[i]? = some a) : l.Perm (a :: (l.take i ++ l.drop (i + 1))) := by
  have hi := (List.getElem?_eq_some_iff.1 h).1
  have h2 := (List.getElem?_eq_some_iff.1 h).2
  conv => lhs; rw [← List.take_append_drop i l, List.drop_eq_getElem_cons hi, h2]
  exact List.perm_middle
theorem set_split {α : Type} {l : List α} {i : Nat} (a : α) (hi : i < l.length) : l.set i a = l.take i ++ a :: l.drop (i + 1) := by
  rw [List.set_eq_take_append_cons_drop, if_pos hi]
theorem perm_set {α : Type} {l : List α} {i : Nat} (a : α) (hi : i < l.length) : (l.set i a).Perm (a :: (l.take i ++ l.drop (i + 1))) := by
  rw [set_split a hi]
  exact List.perm_middle
theorem Rel.put {l : List (Int × X)} {M : List Rw} (h : Rel l M) {x : X} (hn : thereB M x.1.tx = true) : Rel (mput l x.1.tx x) (M.set (findI M x.1.tx) x.1) := by
  obtain ⟨r0, hr0, ht0⟩ := (thereB_iff h.up x.1.tx).1 hn
  have hlt := (List.getElem?_eq_some_iff.1 hr0).1
  have hin : x.1.tx ∈ l.map (·.1) := by
    rw [← mget_isSome]
    have := h.has x.1.tx
    unfold hasX at this
    rw [this, hn]
  obtain ⟨q, hq, hqt⟩ := List.mem_map.1 hin
  obtain ⟨j, hj⟩ := List.getElem?_of_mem hq
  obtain ⟨qk, qx⟩ := q
  simp only at hqt
  subst hqt
  have hjl := (List.getElem?_eq_some_iff.1 hj).1
  have hput : mput l x.1.tx x = l.set j (x.1.tx, x) := by
    unfold mput
    rw [if_pos hin]
    exact map_set_of_nodup h.nod hj
  have hq0 : qx.1 = r0 := by
    have h1 := h.look_there hn
    have h2 : lookX l x.1.tx = qx := by
      unfold lookX
      rw [mget_of_mem h.nod (p := (x.1.tx, qx)) (List.mem_of_getElem? hj)]
      rfl
    rw [h2, hr0] at h1
    exact (Option.some.inj h1).symm
  have hrow : (rowsOf l)[j]? = some r0 := by
    unfold rowsOf
    rw [List.getElem?_map, hj, ← hq0]
    rfl
  refine ⟨fun p hp => ?_, mput_nodup h.nod, ?_, ?_⟩
  · rcases mem_mput hp with hp | rfl
    · exact h.key p hp
    · rfl
  · have h3 : rowsOf (mput l x.1.tx x) = (rowsOf l).set j x.1 := by
      rw [hput]
      unfold rowsOf
      rw [List.map_set]
    rw [h3]
    have h4 := (perm_at hr0).symm.trans (h.perm.trans (perm_at hrow))
    have h5 := List.Perm.cons_inv h4
    exact (perm_set x.1 hlt).trans ((List.Perm.cons x.1 h5).trans (perm_set x.1 (by simpa [rowsOf] using hjl)).symm)
  · have h6 : (M.set (findI M x.1.tx) x.1).map Rw.tx = M.map Rw.tx := by
      rw [List.map_set]
      refine List.ext_getElem? (fun i => ?_)
      rw [List.getElem?_set]
      split
      · rename_i he
        subst he
        rw [List.getElem?_map, hr0]
        simp [ht0, hlt]
      · rfl
    have h7 : (M.map Rw.tx).Pairwise (· < ·) := List.pairwise_map.2 h.up
    rw [← h6] at h7
    exact List.pairwise_map.1 h7
theorem Rel.drop {l : List (Int × X)} {M : List Rw} (h : Rel l M) {n : Int} (hn : thereB M n = true) : Rel (mdel l n) (M.take (findI M n) ++ M.drop (findI M n + 1)) := by
  obtain ⟨r0, hr0, ht0⟩ := (thereB_iff h.up n).1 hn
  have hlt := (List.getElem?_eq_some_iff.1 hr0).1
  have h1 : rowsOf (mdel l n) = (rowsOf l).filter (fun r => r.tx ≠ n) := by
    unfold rowsOf mdel
    rw [List.filter_map]
    congr 1
    refine List.filter_congr (fun p hp => ?_)
    simp [h.key p hp]
  have hdr : M.drop (findI M n) = r0 :: M.drop (findI M n + 1) := by
    rw [List.drop_eq_getElem_cons hlt]
    congr 1
    exact (List.getElem?_eq_some_iff.1 hr0).2
  have h2 : M.filter (fun r => r.tx ≠ n) = M.take (findI M n) ++ M.drop (findI M n + 1) := by
    have hp : (M.drop (findI M n)).Pairwise (fun a b => a.tx < b.tx) := h.up.sublist (List.drop_sublist _ _)
    rw [hdr] at hp
    conv => lhs; rw [← List.take_append_drop (findI M n) M, hdr]
    rw [List.filter_append, List.filter_cons_of_neg (by simp [ht0])]
    congr 1
    · refine List.filter_eq_self.2 (fun r hr => ?_)
      have := findI_take M n r hr
      simp
      omega
    · refine List.filter_eq_self.2 (fun r hr => ?_)
      have := (List.pairwise_cons.1 hp).1 r hr
      simp
      omega
  refine ⟨fun p hp => h.key p (mem_mdel hp), h.nod.sublist ((List.filter_sublist).map _), ?_, ?_⟩
  · rw [h1, ← h2]
    exact h.perm.filter _
  · rw [← h2]
    exact h.up.sublist List.filter_sublist
theorem Rel.drop_no {l : List (Int × X)} {M : List Rw} (h : Rel l M) {n : Int} (hn : thereB M n = false) : mdel l n = l := by
  refine mdel_none (fun hm => ?_)
  have := h.has n
  unfold hasX at this
  rw [mget_isSome.2 hm, hn] at this
  cases this
end Go.Proofs.Ytpjmamobiancdaa
