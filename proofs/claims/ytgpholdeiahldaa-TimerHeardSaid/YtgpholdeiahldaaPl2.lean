/- The timer's pairs and the reference's sorted list: Start, Stop and Due. Plain lists. Conditions: none. -/
import Derived.Test.YtgpholdeiahldaaPl
import Derived.Test.YtgpholdeiahldaaTm3
namespace Go.Proofs.Ytgpholdeiahldaa
open Go.RowKit Go.Maps
theorem mput_perm {κ ν : Type} [DecidableEq κ] {l : List (κ × ν)} (hn : (l.map (·.1)).Nodup) (x : κ) (v : ν) : (mput l x v).Perm ((x, v) :: mdel l x) := by
  by_cases h : x ∈ l.map (·.1)
  · obtain ⟨⟨x', u⟩, hp, hx⟩ := List.mem_map.1 h
    simp only at hx
    subst hx
    obtain ⟨j, hj⟩ := List.getElem?_of_mem hp
    unfold mput
    rw [if_pos h, map_set_of_nodup hn hj, filter_erase_of_nodup hn hj]
    have hlt := (List.getElem?_eq_some_iff.1 hj).1
    rw [List.set_eq_take_append_cons_drop, if_pos hlt, List.eraseIdx_eq_take_drop_succ]
    exact List.perm_middle
  · unfold mput
    rw [if_neg h, mdel_none h]
    exact List.perm_append_comm
theorem mdel_nodup {κ ν : Type} [DecidableEq κ] {l : List (κ × ν)} (hn : (l.map (·.1)).Nodup) (x : κ) : ((mdel l x).map (·.1)).Nodup := hn.sublist (List.filter_sublist.map _)
theorem Rel.stop {l : List (Key × Alarm)} {L : List Alarm} (h : Rel l L) (hn : (l.map (·.1)).Nodup) (tx role : Int) (ht : thereB L tx role = true) : Rel (mdel l (tx, role)) (rStopL L tx role) := by
  rcases place_cases h.rise tx role with ⟨a, B, h1, h2, h3, h4, h5, h6, h7⟩ | ⟨h1, h2⟩
  · have ha : a ∈ L := List.mem_of_getElem? h5
    have hl := (h.mem).1 ha
    have hk : keyA a = (tx, role) := by simp [keyA, h3, h4]
    rw [hk] at hl
    have hp := perm_mdel hn hl
    unfold rStopL
    rw [h6]
    refine ⟨?_, ?_, fun p hp => h.keys p (List.filter_sublist.subset hp)⟩
    · have h8 : (a :: (L.take (placeI L tx role) ++ B)).Perm (a :: (mdel l (tx, role)).map (·.2)) := by
        refine List.perm_middle.symm.trans ?_
        rw [← h1]
        exact h.perm.trans (hp.map (·.2)).symm
      exact (List.perm_cons a).1 h8
    · have hr := h.rise
      unfold Rise at hr ⊢
      rw [h1] at hr
      rw [List.pairwise_append] at hr ⊢
      exact ⟨hr.1, (List.pairwise_cons.1 hr.2.1).2, fun x hx y hy => hr.2.2 x hx y (List.mem_cons_of_mem _ hy)⟩
  · rw [h1] at ht; cases ht
theorem Rel.noStop {l : List (Key × Alarm)} {L : List Alarm} (h : Rel l L) (hn : (l.map (·.1)).Nodup) (tx role : Int) (ht : thereB L tx role = false) : mdel l (tx, role) = l := by
  have := (h.there hn tx role).1
  rw [ht] at this
  refine mdel_none fun hm => ?_
  unfold has0 at this
  rw [mget_isSome.2 hm] at this
  cases this
theorem Rel.start {l : List (Key × Alarm)} {L : List Alarm} (h : Rel l L) (hn : (l.map (·.1)).Nodup) (tx role now : Int) : Rel (mput l (tx, role) ⟨tx, role, now + 4, 0⟩) (rStartL L tx role now) := by
  have hkeys : ∀ p ∈ mput l (tx, role) ⟨tx, role, now + 4, 0⟩, p.1 = keyA p.2 := by
    intro p hp
    have := (mput_perm hn (tx, role) ⟨tx, role, now + 4, 0⟩).mem_iff.1 hp
    rcases List.mem_cons.1 this with rfl | hp
    · rfl
    · exact h.keys p (List.filter_sublist.subset hp)
  have hfind := find_take L ⟨tx, role, 0, 0⟩
  have hfind2 := find_drop h.rise ⟨tx, role, 0, 0⟩
  cases ht : thereB L tx role with
  | true =>
    have hs := h.stop hn tx role ht
    unfold rStartL
    simp only [ht, if_true]
    unfold rStopL at hs
    refine ⟨?_, ?_, hkeys⟩
    · refine List.Perm.trans ?_ ((mput_perm hn (tx, role) ⟨tx, role, now + 4, 0⟩).map (·.2)).symm
      rw [List.append_assoc, List.singleton_append]
      exact List.perm_middle.trans (List.Perm.cons _ hs.perm)
    · have hr := hs.rise
      rcases place_cases h.rise tx role with ⟨a, B, h1, h2, h3, h4, h5, h6, h7⟩ | ⟨h1, h2⟩
      · unfold Rise at hr ⊢
        rw [List.pairwise_append] at hr
        rw [List.append_assoc, List.singleton_append, List.pairwise_append, List.pairwise_cons]
        refine ⟨hr.1, ⟨fun b hb => ?_, hr.2.1⟩, fun x hx y hy => ?_⟩
        · rw [h6] at hb
          have := h7 b hb
          rw [lessA_iff] at this ⊢
          simp only
          omega
        · rcases List.mem_cons.1 hy with rfl | hy
          · have := hfind x hx
            rw [lessA_iff] at this ⊢
            exact this
          · exact hr.2.2 x hx y hy
      · rw [h1] at ht; cases ht
  | false =>
    have hd := h.noStop hn tx role ht
    unfold rStartL
    simp only [ht, Bool.false_eq_true, if_false]
    refine ⟨?_, ?_, hkeys⟩
    · refine List.Perm.trans ?_ ((mput_perm hn (tx, role) ⟨tx, role, now + 4, 0⟩).map (·.2)).symm
      rw [hd, List.append_assoc, List.singleton_append]
      refine List.perm_middle.trans (List.Perm.cons _ ?_)
      rw [List.take_append_drop]
      exact h.perm
    · rcases place_cases h.rise tx role with ⟨a, B, h1, h2, h3, h4, h5, h6, h7⟩ | ⟨h1, h2⟩
      · rw [h2] at ht; cases ht
      · have hr := h.rise
        unfold Rise at hr ⊢
        rw [← List.take_append_drop (placeI L tx role) L, List.pairwise_append] at hr
        rw [List.append_assoc, List.singleton_append, List.pairwise_append, List.pairwise_cons]
        refine ⟨hr.1, ⟨fun b hb => ?_, hr.2.1⟩, fun x hx y hy => ?_⟩
        · have h3 := hfind2 b hb
          have h4 := h2 b (List.mem_of_mem_drop hb)
          simp only [keyA, ne_eq, Prod.mk.injEq] at h4
          rw [lessA_no] at h3
          rw [lessA_iff]
          simp only at h3 ⊢
          omega
        · rcases List.mem_cons.1 hy with rfl | hy
          · have := hfind x hx
            rw [lessA_iff] at this ⊢
            exact this
          · exact hr.2.2 x hx y hy
theorem unique_sorted {α : Type} {lt : α → α → Prop} : ∀ (L d : List α), d.Perm L → L.Pairwise lt → d.Pairwise (fun x y => ¬ lt y x) → d = L
  | [], d, hp, _, _ => hp.eq_nil
  | y :: L, [], hp, _, _ => absurd hp.length_eq (by simp)
  | y :: L, x :: d, hp, hL, hd => by
    obtain ⟨h1, h2⟩ := List.pairwise_cons.1 hL
    obtain ⟨h3, h4⟩ := List.pairwise_cons.1 hd
    have hxy : x = y := by
      have hx : x ∈ y :: L := hp.mem_iff.1 (by simp)
      have hy : y ∈ x :: d := hp.mem_iff.2 (by simp)
      rcases List.mem_cons.1 hx with h | hx
      · exact h
      · rcases List.mem_cons.1 hy with h | hy
        · exact h.symm
        · exact absurd (h1 x hx) (h3 y hy)
    subst hxy
    rw [unique_sorted L d ((List.perm_cons x).1 hp) h2 h4]
/-- What All answers is the reference's list. -/
theorem Rel.all {l : List (Key × Alarm)} {L d : List Alarm} (h : Rel l L) (hp : d.Perm (l.map (·.2))) (hd : d.Pairwise (fun x y => lt3 (allO y) (allO x) = false)) : d = L := by
  refine unique_sorted (lt := fun a b => lessA a b = true) L d (hp.trans h.perm.symm) h.rise (hd.imp fun {x y} h1 h2 => ?_)
  rw [lessA_iff] at h2
  unfold lt3 allO at h1
  rw [← Bool.not_eq_true] at h1
  simp only [decide_eq_true_eq, Bool.or_eq_true, Bool.and_eq_true] at h1
  omega
/-- What becomes of an alarm at 'now'. -/
def hearI (now : Int) (a : Alarm) : Alarm := if a.at_ ≤ now then upd now a else a
theorem hearI_key (now : Int) (a : Alarm) : keyA (hearI now a) = keyA a := by unfold hearI; split <;> rfl
theorem putAll_map : ∀ (ds : List Alarm) (l : List (Key × Alarm)), (∀ a ∈ ds, keyA a ∈ l.map (·.1)) → putAll l ds = l.map (fun p => (p.1, ds.foldl (fun v a => if p.1 = keyA a then a else v) p.2))
  | [], l, _ => by simp [putAll]
  | a :: ds, l, h => by
    have hm : mput l (a.tx, a.role) a = l.map (fun p => (p.1, if p.1 = keyA a then a else p.2)) := by
      unfold mput
      rw [if_pos (h a (by simp))]
      refine List.map_congr_left fun p _ => ?_
      by_cases hp : p.1 = keyA a
      · simp [hp]
      · simp [hp]
    have hk : (l.map (fun p => (p.1, if p.1 = keyA a then a else p.2))).map (·.1) = l.map (·.1) := by rw [List.map_map]; rfl
    have := putAll_map ds (l.map (fun p => (p.1, if p.1 = keyA a then a else p.2))) (fun b hb => by rw [hk]; exact h b (List.mem_cons_of_mem _ hb))
    unfold putAll at this ⊢
    rw [List.foldl_cons, hm, this, List.map_map]
    rfl
theorem fold_none (k : Key) (now : Int) : ∀ (d : List Alarm) (v : Alarm), (∀ a ∈ d, keyA a ≠ k) → (d.map (upd now)).foldl (fun v a => if k = keyA a then a else v) v = v
  | [], _, _ => rfl
  | b :: d, v, h => by
    rw [List.map_cons, List.foldl_cons, if_neg (fun e => h b (by simp) (show keyA b = k from e.symm))]
    exact fold_none k now d v (fun a ha => h a (List.mem_cons_of_mem _ ha))
theorem fold_some (k : Key) (now : Int) : ∀ (d : List Alarm) (v a : Alarm), a ∈ d → keyA a = k → (d.map keyA).Nodup → (d.map (upd now)).foldl (fun v a => if k = keyA a then a else v) v = upd now a
  | b :: d, v, a, ha, hk, hn => by
    rw [List.map_cons, List.nodup_cons] at hn
    rw [List.map_cons, List.foldl_cons]
    rcases List.mem_cons.1 ha with rfl | ha
    · rw [if_pos (show k = keyA (upd now a) from hk.symm)]
      exact fold_none k now d _ (fun c hc e => hn.1 (by rw [hk, ← e]; exact List.mem_map.2 ⟨c, hc, rfl⟩))
    · exact fold_some k now d _ a ha hk hn.2
theorem putAll_due {l : List (Key × Alarm)} {d : List Alarm} {now : Int} (hn : (l.map (·.1)).Nodup) (hk : ∀ p ∈ l, p.1 = keyA p.2) (hd : d.Perm (dueL l now)) : putAll l (d.map (upd now)) = l.map (fun p => (p.1, hearI now p.2)) := by
  have hmem : ∀ a, a ∈ d ↔ (keyA a, a) ∈ l ∧ a.at_ ≤ now := by
    intro a
    rw [hd.mem_iff]
    unfold dueL
    rw [List.mem_filter, List.mem_map]
    constructor
    · rintro ⟨⟨p, hp, rfl⟩, h2⟩
      have := hk p hp
      refine ⟨?_, by simpa using h2⟩
      rw [← this]
      exact hp
    · rintro ⟨h1, h2⟩
      exact ⟨⟨_, h1, rfl⟩, by simpa using h2⟩
  have hnd : (d.map keyA).Nodup := by
    refine (hd.map keyA).nodup_iff.2 ?_
    have e1 : l.map (·.1) = (l.map (·.2)).map keyA := by
      rw [List.map_map]
      exact List.map_congr_left fun p hp => hk p hp
    rw [e1] at hn
    exact hn.sublist (List.filter_sublist.map _)
  have huniq : ∀ p ∈ l, ∀ a, (keyA a, a) ∈ l → keyA a = p.1 → a = p.2 := by
    intro p hp a ha e
    obtain ⟨j, hj⟩ := List.getElem?_of_mem ha
    obtain ⟨j', hj'⟩ := List.getElem?_of_mem hp
    have h1 := lookup_of_getElem? hn hj
    have h2 := lookup_of_getElem? (x := p.1) (v := p.2) hn hj'
    rw [e, h2] at h1
    exact (Option.some.inj h1).symm
  rw [putAll_map]
  · refine List.map_congr_left fun p hp => ?_
    congr 1
    unfold hearI
    split
    · rename_i hle
      exact fold_some p.1 now d p.2 p.2 ((hmem p.2).2 ⟨by rw [← hk p hp]; exact hp, hle⟩) (hk p hp).symm hnd
    · rename_i hle
      refine fold_none p.1 now d p.2 fun a ha e => ?_
      obtain ⟨h1, h2⟩ := (hmem a).1 ha
      have := huniq p hp a h1 e
      subst this
      exact hle h2
  · intro a ha
    obtain ⟨b, hb, rfl⟩ := List.mem_map.1 ha
    exact List.mem_map.2 ⟨_, ((hmem b).1 hb).1, rfl⟩
theorem Rel.due {l : List (Key × Alarm)} {L : List Alarm} {d : List Alarm} {now : Int} {is : List Nat} (h : Rel l L) (hn : (l.map (·.1)).Nodup) (hd : d.Perm (dueL l now)) (hs : d.Pairwise (fun x y => lt3 (dueO y) (dueO x) = false)) (hp : Picked L now is)
    (hall : ∀ j a, L[j]? = some a → a.at_ ≤ now → j ∈ is) : d = is.map (getA L) ∧ Rel (putAll l (d.map (upd now))) (nowL L now is) := by
  constructor
  · refine unique_sorted (lt := fun a b => lt3 (dueO a) (dueO b) = true) _ d ?_ ?_ (hs.imp fun {x y} h1 h2 => by rw [h1] at h2; cases h2)
    · refine hd.trans (List.Perm.trans ?_ (hp.perm hall).symm)
      unfold dueL
      exact (h.perm.filter _).symm
    · rw [List.pairwise_map]
      refine hp.ord.imp fun {i j} hij => ?_
      obtain ⟨a, b, h1, h2, h3⟩ := hij
      rw [getA_eq h1, getA_eq h2]
      unfold lt3 dueO
      simp only [decide_eq_true_eq, Bool.or_eq_true, Bool.and_eq_true]
      rcases h3 with h3 | ⟨h3, h4⟩
      · exact .inl h3
      · right
        refine ⟨h3, ?_⟩
        have hr := h.rise
        unfold Rise at hr
        rw [List.pairwise_iff_getElem] at hr
        obtain ⟨l1, e1⟩ := List.getElem?_eq_some_iff.1 h1
        obtain ⟨l2, e2⟩ := List.getElem?_eq_some_iff.1 h2
        have := hr i j l1 l2 h4
        rw [e1, e2, lessA_iff] at this
        exact this
  · rw [putAll_due hn h.keys hd]
    have e1 : nowL L now is = L.map (hearI now) := by
      unfold nowL
      apply List.ext_getElem?
      intro j
      rw [List.getElem?_mapIdx, List.getElem?_map]
      cases hj : L[j]? with
      | none => rfl
      | some a =>
        simp only [Option.map_some]
        congr 1
        unfold hearI
        by_cases ha : a.at_ ≤ now
        · rw [if_pos ha, if_pos (hall j a hj ha)]
        · rw [if_neg ha, if_neg]
          intro hm
          obtain ⟨b, hb, hb2⟩ := hp.due j hm
          rw [hj] at hb
          cases hb
          exact ha hb2
    rw [e1]
    refine ⟨?_, ?_, ?_⟩
    · have := h.perm.map (hearI now)
      rw [List.map_map] at this ⊢
      exact this
    · have hr := h.rise
      unfold Rise at hr ⊢
      rw [List.pairwise_map]
      refine hr.imp fun {a b} hab => ?_
      have k1 := hearI_key now a
      have k2 := hearI_key now b
      simp only [keyA, Prod.mk.injEq] at k1 k2
      rw [lessA_iff] at hab ⊢
      rw [k1.1, k1.2, k2.1, k2.2]
      exact hab
    · intro p hp2
      obtain ⟨q, hq, rfl⟩ := List.mem_map.1 hp2
      simp only
      rw [hearI_key]
      exact h.keys q hq
theorem laterI_i64 {now d : Int} (h : I64 now) (h0 : 0 ≤ d) : I64 (laterI now d) := by
  unfold I64 at *
  unfold laterI
  omega
theorem Good.due {B : Int} {l : List (Key × Alarm)} {d : List Alarm} {now : Int} (h : Good B l) (hn : (l.map (·.1)).Nodup) (hi : I64 now) (hd : d.Perm (dueL l now)) : Good (B + 1) (putAll l (d.map (upd now))) := by
  rw [putAll_due hn (fun p hp => (h p hp).1) hd]
  intro p hp
  obtain ⟨q, hq, rfl⟩ := List.mem_map.1 hp
  obtain ⟨h1, h2, h3, h4, h5, h6⟩ := h q hq
  have hb := (delayI_pow (q.2.tries + 1)).bd
  have hl := laterI_i64 (now := now) (d := delayI (q.2.tries + 1)) hi (by omega)
  unfold hearI
  split
  · exact ⟨h1, h2, h3, hl, by simp only [upd]; omega, by simp only [upd]; omega⟩
  · exact ⟨h1, h2, h3, h4, h5, by simp only; omega⟩
theorem Good.more {B : Int} {l : List (Key × Alarm)} (h : Good B l) : Good (B + 1) l := fun p hp => by
  obtain ⟨h1, h2, h3, h4, h5, h6⟩ := h p hp
  exact ⟨h1, h2, h3, h4, h5, by omega⟩
theorem Good.stop {B : Int} {l : List (Key × Alarm)} (h : Good B l) (x : Key) : Good B (mdel l x) := fun p hp => h p (List.filter_sublist.subset hp)
theorem Good.start {B : Int} {l : List (Key × Alarm)} (h : Good B l) (hn : (l.map (·.1)).Nodup) (hB : 0 ≤ B) (tx role now : Int) (hb : ¬ badStart tx role now) : Good B (mput l (tx, role) ⟨tx, role, now + 4, 0⟩) := by
  unfold badStart at hb
  intro p hp
  have := (mput_perm hn (tx, role) ⟨tx, role, now + 4, 0⟩).mem_iff.1 hp
  rcases List.mem_cons.1 this with rfl | hp
  · unfold I64
    exact ⟨rfl, by simp only; omega, by simp only; omega, by simp only; omega, by simp, hB⟩
  · exact h p (List.filter_sublist.subset hp)
theorem mput_len {κ ν : Type} [DecidableEq κ] (l : List (κ × ν)) (x : κ) (v : ν) : (mput l x v).length ≤ l.length + 1 := by
  unfold mput
  split <;> simp
end Go.Proofs.Ytgpholdeiahldaa
