/- What the reference's Due picks, in which order: plain lists. Conditions: none. -/
import Derived.Test.YtgpholdeiahldaaRf4
import Derived.Test.YtgpholdeiahldaaDu
namespace Go.Proofs.Ytgpholdeiahldaa
open Go.RowKit Go.Maps
def getA (L : List Alarm) (i : Nat) : Alarm := (L[i]?).getD ⟨0, 0, 0, 0⟩
theorem getA_eq {L : List Alarm} {i : Nat} {a : Alarm} (h : L[i]? = some a) : getA L i = a := by simp [getA, h]
def ltI (L : List Alarm) (i j : Nat) : Prop := ∃ a b, L[i]? = some a ∧ L[j]? = some b ∧ (a.at_ < b.at_ ∨ (a.at_ = b.at_ ∧ i < j))
theorem ltI.ne {L : List Alarm} {i j : Nat} (h : ltI L i j) : i ≠ j := by
  rintro rfl
  obtain ⟨a, b, h1, h2, h3⟩ := h
  rw [h1] at h2
  cases h2
  omega
/-- These have been picked so far. -/
structure Picked (L : List Alarm) (now : Int) (is : List Nat) : Prop where
  due : ∀ i ∈ is, ∃ a, L[i]? = some a ∧ a.at_ ≤ now
  ord : is.Pairwise (ltI L)
  rest : ∀ i ∈ is, ∀ j a, j ∉ is → L[j]? = some a → a.at_ ≤ now → ltI L i j
def heardL (n : Nat) (is : List Nat) : List Bool := (List.range n).map (fun j => decide (j ∈ is))
def nowL (L : List Alarm) (now : Int) (is : List Nat) : List Alarm := L.mapIdx (fun j a => if j ∈ is then upd now a else a)
theorem heardL_len (n : Nat) (is : List Nat) : (heardL n is).length = n := by simp [heardL]
theorem nowL_len (L : List Alarm) (now : Int) (is : List Nat) : (nowL L now is).length = L.length := by simp [nowL]
theorem heardL_nil (n : Nat) : heardL n [] = List.replicate n false := by
  unfold heardL
  rw [List.eq_replicate_iff]
  simp
theorem nowL_nil (L : List Alarm) (now : Int) : nowL L now [] = L := by
  unfold nowL
  apply List.ext_getElem?
  intro j
  rw [List.getElem?_mapIdx]
  cases L[j]? <;> simp
theorem heardL_set {n i : Nat} (is : List Nat) (h : i < n) : (heardL n is).set i true = heardL n (is ++ [i]) := by
  apply List.ext_getElem?
  intro j
  rw [List.getElem?_set]
  unfold heardL
  simp only [List.getElem?_map, List.length_map, List.length_range]
  by_cases hj : j < n
  · rw [List.getElem?_range hj]
    by_cases hij : i = j
    · subst hij; simp [h]
    · have hji : ¬ j = i := fun e => hij e.symm
      simp [hij, hji]
  · rw [List.getElem?_eq_none (by simp; omega)]
    simp
    omega
theorem nowL_get {L : List Alarm} {now : Int} {is : List Nat} {i : Nat} {a : Alarm} (h : L[i]? = some a) (hi : i ∉ is) : (nowL L now is)[i]? = some a := by
  unfold nowL
  rw [List.getElem?_mapIdx, h]
  simp [hi]
theorem nowL_set {L : List Alarm} {now : Int} {i : Nat} {a : Alarm} (is : List Nat) (h : L[i]? = some a) : (nowL L now is).set i (upd now a) = nowL L now (is ++ [i]) := by
  have hlt := (List.getElem?_eq_some_iff.1 h).1
  apply List.ext_getElem?
  intro j
  rw [List.getElem?_set]
  unfold nowL
  simp only [List.getElem?_mapIdx, List.length_mapIdx]
  by_cases hij : i = j
  · subst hij; rw [h]; simp [hlt]
  · have hji : ¬ j = i := fun e => hij e.symm
    simp [hij, hji]
theorem live_iff {L : List Alarm} {now : Int} {is : List Nat} {j : Nat} {a : Alarm} : live (nowL L now is) (heardL L.length is) now j a ↔ j ∉ is ∧ L[j]? = some a ∧ a.at_ ≤ now := by
  unfold live heardL
  constructor
  · rintro ⟨h1, h2, h3⟩
    have hj : j < L.length := by
      have := (List.getElem?_eq_some_iff.1 h2).1
      simpa using this
    rw [List.getElem?_map, List.getElem?_range hj] at h2
    have h4 : j ∉ is := by simpa using h2
    refine ⟨h4, ?_, h3⟩
    obtain ⟨c, hc⟩ : ∃ c, L[j]? = some c := ⟨L[j], by simp [hj]⟩
    rw [nowL_get hc h4] at h1
    rw [hc, h1]
  · rintro ⟨h1, h2, h3⟩
    have hj := (List.getElem?_eq_some_iff.1 h2).1
    refine ⟨nowL_get h2 h1, ?_, h3⟩
    rw [List.getElem?_map, List.getElem?_range hj]
    simp [h1]
theorem Picked.nil (L : List Alarm) (now : Int) : Picked L now [] := ⟨by simp, List.Pairwise.nil, by simp⟩
theorem Picked.step {L : List Alarm} {now : Int} {is : List Nat} {i : Nat} (h : Picked L now is) (hb : BestAt (nowL L now is) (heardL L.length is) now (nowL L now is).length (i : Int)) :
    ∃ a, L[i]? = some a ∧ i ∉ is ∧ a.at_ ≤ now ∧ Picked L now (is ++ [i]) := by
  rcases hb with ⟨h0, _⟩ | ⟨n, a, h1, h0, h2, h3⟩
  · omega
  · obtain rfl : i = n := by omega
    obtain ⟨hi, ha, hn⟩ := live_iff.1 h2
    refine ⟨a, ha, hi, hn, ?_, ?_, ?_⟩
    · intro j hj
      rcases List.mem_append.1 hj with hj | hj
      · exact h.due j hj
      · simp at hj; subst hj; exact ⟨a, ha, hn⟩
    · rw [List.pairwise_append]
      refine ⟨h.ord, List.pairwise_singleton _ _, fun x hx y hy => ?_⟩
      simp at hy; subst hy
      exact h.rest x hx y a hi ha hn
    · intro x hx j c hj hc hcn
      have hj1 : j ∉ is := fun e => hj (List.mem_append_left _ e)
      have hj2 : i ≠ j := fun e => hj (List.mem_append_right _ (by simp [e]))
      rcases List.mem_append.1 hx with hx | hx
      · exact h.rest x hx j c hj1 hc hcn
      · simp at hx; subst hx
        have hjl := (List.getElem?_eq_some_iff.1 hc).1
        rcases h3 j c (by rw [nowL_len]; exact hjl) (live_iff.2 ⟨hj1, hc, hcn⟩) with h4 | ⟨h4, h5⟩
        · exact ⟨a, c, ha, hc, .inl h4⟩
        · exact ⟨a, c, ha, hc, .inr ⟨h4, by omega⟩⟩
theorem Picked.all {L : List Alarm} {now : Int} {is : List Nat} (hb : BestAt (nowL L now is) (heardL L.length is) now (nowL L now is).length (-1)) : ∀ j a, L[j]? = some a → a.at_ ≤ now → j ∈ is := by
  rcases hb with ⟨_, h⟩ | ⟨n, a, h1, h0, _⟩
  · intro j a hj ha
    refine Classical.byContradiction fun hn => ?_
    exact h j a (by rw [nowL_len]; exact (List.getElem?_eq_some_iff.1 hj).1) (live_iff.2 ⟨hn, hj, ha⟩)
  · omega
theorem nodup_len : ∀ (n : Nat) (l : List Nat), l.Nodup → (∀ x ∈ l, x < n) → l.length ≤ n
  | 0, l, _, h => by
    cases l with
    | nil => simp
    | cons a l => exact absurd (h a (by simp)) (by omega)
  | n + 1, l, hn, h => by
    have h1 := nodup_len n (l.erase n) (hn.erase n) (fun x hx => by
      have hm := (hn.mem_erase_iff).1 hx
      have := h x hm.2
      omega)
    by_cases hm : n ∈ l
    · rw [List.length_erase_of_mem hm] at h1
      omega
    · rw [List.erase_of_not_mem hm] at h1
      omega
theorem Picked.nodup {L : List Alarm} {now : Int} {is : List Nat} (h : Picked L now is) : is.Nodup := h.ord.imp (fun h => h.ne)
theorem Picked.len {L : List Alarm} {now : Int} {is : List Nat} (h : Picked L now is) : is.length ≤ L.length :=
  nodup_len _ _ h.nodup (fun x hx => by obtain ⟨a, ha, _⟩ := h.due x hx; exact (List.getElem?_eq_some_iff.1 ha).1)
/-- The picked ones are those that are due. -/
theorem Picked.perm {L : List Alarm} {now : Int} {is : List Nat} (h : Picked L now is) (hall : ∀ j a, L[j]? = some a → a.at_ ≤ now → j ∈ is) : (is.map (getA L)).Perm (L.filter (fun a => decide (a.at_ ≤ now))) := by
  have h1 : is.Perm ((List.range L.length).filter (fun j => decide ((getA L j).at_ ≤ now))) := by
    rw [List.perm_ext_iff_of_nodup h.nodup (List.nodup_range.sublist List.filter_sublist)]
    intro j
    rw [List.mem_filter, List.mem_range]
    constructor
    · intro hj
      obtain ⟨a, ha, hn⟩ := h.due j hj
      exact ⟨(List.getElem?_eq_some_iff.1 ha).1, by rw [getA_eq ha]; simpa using hn⟩
    · rintro ⟨hj, hn⟩
      have ha : L[j]? = some L[j] := by simp [hj]
      rw [getA_eq ha] at hn
      exact hall j _ ha (by simpa using hn)
  refine (h1.map _).trans (List.Perm.of_eq ?_)
  have h2 : (List.range L.length).map (getA L) = L := by
    apply List.ext_getElem?
    intro j
    rw [List.getElem?_map]
    by_cases hj : j < L.length
    · rw [List.getElem?_range hj]
      simp [getA, hj]
    · rw [List.getElem?_eq_none (by simp; omega), List.getElem?_eq_none (by omega)]
      rfl
  conv => rhs; rw [← h2]
  rw [List.filter_map]
  rfl
end Go.Proofs.Ytgpholdeiahldaa
