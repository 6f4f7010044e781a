/- The timer's pairs and the reference's sorted list hold the same alarms: what each operation does to both. Plain lists. Conditions: none. -/
import Derived.Test.YtgpholdeiahldaaPk
namespace Go.Proofs.Ytgpholdeiahldaa
open Go.RowKit Go.Maps
abbrev keyA (a : Alarm) : Key := (a.tx, a.role)
theorem lessA_iff {a b : Alarm} : lessA a b = true ↔ a.tx < b.tx ∨ (a.tx = b.tx ∧ a.role < b.role) := by unfold lessA; simp
theorem lessA_no {a b : Alarm} : lessA a b = false ↔ ¬ (a.tx < b.tx ∨ (a.tx = b.tx ∧ a.role < b.role)) := by rw [← lessA_iff]; simp
/-- Rising by transaction and role. -/
def Rise (L : List Alarm) : Prop := L.Pairwise (fun a b => lessA a b = true)
structure Rel (l : List (Key × Alarm)) (L : List Alarm) : Prop where
  perm : L.Perm (l.map (·.2))
  rise : Rise L
  keys : ∀ p ∈ l, p.1 = keyA p.2
theorem Rel.nil : Rel [] [] := ⟨List.Perm.refl _, List.Pairwise.nil, by simp⟩
theorem Rel.len {l : List (Key × Alarm)} {L : List Alarm} (h : Rel l L) : L.length = l.length := by simpa using h.perm.length_eq
/-- The parts ahead of a place and behind it. -/
theorem find_take (L : List Alarm) (x : Alarm) : ∀ a ∈ L.take (findI L x), lessA a x = true := by
  induction L with
  | nil => simp
  | cons b L ih =>
    unfold findI
    split
    · rename_i h
      intro a ha
      rw [List.take_succ_cons] at ha
      rcases List.mem_cons.1 ha with rfl | ha
      · exact h
      · exact ih a ha
    · simp
theorem find_drop {L : List Alarm} (hL : Rise L) (x : Alarm) : ∀ a ∈ L.drop (findI L x), lessA a x = false := by
  induction L with
  | nil => simp
  | cons b L ih =>
    obtain ⟨h1, h2⟩ := List.pairwise_cons.1 hL
    unfold findI
    split
    · intro a ha
      rw [List.drop_succ_cons] at ha
      exact ih h2 a ha
    · rename_i h
      intro a ha
      rw [List.drop_zero] at ha
      rcases List.mem_cons.1 ha with rfl | ha
      · simpa using h
      · have := h1 a ha
        rw [lessA_iff] at this
        rw [Bool.not_eq_true, lessA_no] at h
        rw [lessA_no]
        omega
/-- Where it is there, it is at its place; else its place is between. -/
theorem place_cases {L : List Alarm} (hL : Rise L) (tx role : Int) :
    (∃ a B, L = L.take (placeI L tx role) ++ a :: B ∧ thereB L tx role = true ∧ a.tx = tx ∧ a.role = role ∧ L[placeI L tx role]? = some a ∧ L.drop (placeI L tx role + 1) = B ∧ (∀ b ∈ B, lessA a b = true)) ∨
    (thereB L tx role = false ∧ ∀ a ∈ L, keyA a ≠ (tx, role)) := by
  have h1 := find_take L ⟨tx, role, 0, 0⟩
  have h2 := find_drop hL ⟨tx, role, 0, 0⟩
  unfold placeI
  have hsplit := List.take_append_drop (findI L ⟨tx, role, 0, 0⟩) L
  cases hB : L.drop (findI L ⟨tx, role, 0, 0⟩) with
  | nil =>
    right
    have hle : L.length ≤ findI L ⟨tx, role, 0, 0⟩ := List.drop_eq_nil_iff.1 hB
    refine ⟨?_, ?_⟩
    · unfold thereB isAt placeI
      rw [List.getElem?_eq_none hle]
    · intro a ha hk
      rw [hB, List.append_nil] at hsplit
      rw [hsplit] at h1
      have := h1 a ha
      rw [lessA_iff] at this
      simp only [keyA, Prod.mk.injEq] at hk
      simp only at this
      omega
  | cons a B =>
    have hget : L[findI L ⟨tx, role, 0, 0⟩]? = some a := by
      have := congrArg (·[0]?) hB
      simpa using this
    have hdrop : L.drop (findI L ⟨tx, role, 0, 0⟩ + 1) = B := by
      have := congrArg List.tail hB
      simpa using this
    rw [hB] at hsplit
    have hBs : ∀ b ∈ B, lessA a b = true := by
      have hr := hL
      unfold Rise at hr
      rw [← hsplit, List.pairwise_append] at hr
      exact (List.pairwise_cons.1 hr.2.1).1
    by_cases hk : a.tx = tx ∧ a.role = role
    · left
      refine ⟨a, B, hsplit.symm, ?_, hk.1, hk.2, hget, hdrop, hBs⟩
      unfold thereB isAt placeI
      rw [hget]
      simp [hk.1, hk.2]
    · right
      refine ⟨?_, ?_⟩
      · unfold thereB isAt placeI
        rw [hget]
        simp
        intro e; exact fun e2 => hk ⟨e, e2⟩
      · intro c hc hck
        simp only [keyA, Prod.mk.injEq] at hck
        rw [← hsplit] at hc
        rcases List.mem_append.1 hc with hc | hc
        · have := h1 c hc
          rw [lessA_iff] at this
          simp only at this
          omega
        · have h3 := h2 a (by rw [hB]; simp)
          rw [lessA_no] at h3
          simp only at h3
          rcases List.mem_cons.1 hc with rfl | hc
          · exact hk hck
          · have := hBs c hc
            rw [lessA_iff] at this
            omega
theorem Rel.mem {l : List (Key × Alarm)} {L : List Alarm} (h : Rel l L) {a : Alarm} : a ∈ L ↔ (keyA a, a) ∈ l := by
  rw [h.perm.mem_iff]
  constructor
  · intro ha
    obtain ⟨p, hp, rfl⟩ := List.mem_map.1 ha
    have := h.keys p hp
    obtain ⟨k, v⟩ := p
    simp only at this
    subst this
    exact hp
  · intro ha
    exact List.mem_map.2 ⟨_, ha, rfl⟩
theorem Rel.there {l : List (Key × Alarm)} {L : List Alarm} (h : Rel l L) (hn : (l.map (·.1)).Nodup) (tx role : Int) : thereB L tx role = has0 l tx role ∧ rGetA L tx role = look0 l tx role := by
  rcases place_cases h.rise tx role with ⟨a, B, h1, h2, h3, h4, h5, h6, h7⟩ | ⟨h1, h2⟩
  · have ha : a ∈ L := List.mem_of_getElem? h5
    have hl := (h.mem).1 ha
    obtain ⟨j, hj⟩ := List.getElem?_of_mem hl
    have hg := lookup_of_getElem? hn hj
    have hk : keyA a = (tx, role) := by simp [keyA, h3, h4]
    rw [hk] at hg
    unfold has0 look0 rGetA
    rw [h2, hg, h5]
    simp
  · have hno : (tx, role) ∉ l.map (·.1) := by
      intro hm
      obtain ⟨p, hp, hpe⟩ := List.mem_map.1 hm
      have hk := h.keys p hp
      have ha : p.2 ∈ L := h.perm.mem_iff.2 (List.mem_map.2 ⟨p, hp, rfl⟩)
      exact h2 p.2 ha (by rw [← hk, hpe])
    unfold has0 look0 rGetA
    rw [h1, lookup_none hno]
    simp
end Go.Proofs.Ytgpholdeiahldaa
