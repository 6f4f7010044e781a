/- Rows: one element written; a map's pairs without one. Conditions: none. -/
import Derived.Test.YtpjmamobiancdaaBase
namespace Go.Proofs.Ytpjmamobiancdaa
open Go.RowKit Go.Maps
section
variable {α : Type} {k : Nat} {e : TypeId} {enc : α → List Value}
theorem flat_set (hk : ∀ x, (enc x).length = k) {l : List α} {j i : Nat} {a a' : α} {u : Value} (ha : l[j]? = some a) (hi : i < k) (he : enc a' = (enc a).set i u) : (l.flatMap enc).set (j * k + i) u = (l.set j a').flatMap enc := by
  induction l generalizing j with
  | nil => simp at ha
  | cons b l ih =>
    cases j with
    | zero => simp at ha; subst ha; simp [List.set_append_left, hk, hi, he]
    | succ j =>
      simp at ha
      have e1 : (j + 1) * k + i = (enc b).length + (j * k + i) := by rw [hk, Nat.add_mul]; omega
      rw [List.flatMap_cons, e1, List.set_append_right _ _ (by omega), show (enc b).length + (j * k + i) - (enc b).length = j * k + i by omega, ih ha]
      simp
theorem RowOf.setCell {w : World} {base g n cap : Nat} {l : List α} (h : RowOf w base e k enc (.slice (some ⟨g, 0, none⟩) n cap) l) (hk : ∀ x, (enc x).length = k) {j i : Nat} {a a' : α} {u : Value} (ha : l[j]? = some a) (hi : i < k) (he : enc a' = (enc a).set i u) :
    RowOf (w.setCell ⟨g, j * k + i, none⟩ u) base e k enc (.slice (some ⟨g, 0, none⟩) n cap) (l.set j a') := by
  obtain ⟨h1, h2⟩ := h
  refine ⟨by rw [flat_length hk], ?_⟩
  rcases h2 with ⟨h2, _⟩ | ⟨g', cap', cur, h2, hb, hg, hn, hm, hc, ht⟩
  · cases h2
  · simp only [Value.slice.injEq, Option.some.injEq, Addr.mk.injEq, and_true] at h2
    obtain ⟨rfl, hnl, rfl⟩ := h2
    refine .inr ⟨g, cap, cur.setIfInBounds (j * k + i) u, by simp [hnl], hb, ?_, by simpa using hn, hm, by simpa using hc, ?_⟩
    · simp [World.setCell, Array.getElem?_modify, hg]
    · rw [List.length_set, ← flat_set hk ha hi he, ← ht]
      simp only [Array.toList_setIfInBounds]
      rw [List.take_set]
theorem perm_mdel {κ ν : Type} [DecidableEq κ] {l : List (κ × ν)} (hn : (l.map (·.1)).Nodup) {x : κ} {v : ν} (h : (x, v) ∈ l) : ((x, v) :: mdel l x).Perm l := by
  induction l with
  | nil => simp at h
  | cons p l ih =>
    obtain ⟨h1, h2⟩ := List.nodup_cons.1 hn
    rcases List.mem_cons.1 h with rfl | h'
    · have : mdel ((x, v) :: l) x = l := by
        unfold mdel
        rw [List.filter_cons_of_neg (by simp)]
        exact mdel_none h1
      rw [this]
    · have hp : p.1 ≠ x := fun e => h1 (show p.1 ∈ _ from by rw [e]; exact List.mem_map.2 ⟨(x, v), h', rfl⟩)
      have : mdel (p :: l) x = p :: mdel l x := by unfold mdel; rw [List.filter_cons_of_pos (by simpa using hp)]
      rw [this]
      exact (List.Perm.swap p (x, v) _).trans ((ih h2 h').cons p)
end
end Go.Proofs.Ytpjmamobiancdaa
