/- The kit's sorted rows and rows known as lists: one from the other. Conditions: none. -/
import Derived.Test.YtgpholdeiahldaaBase
import Derived.Shelf.SlSortCmp.WholeK
namespace Go.Proofs.Ytgpholdeiahldaa
open Go.RowKit Go.Maps Go.Sort
section
variable {P : Program} {α : Type} [Inhabited α] {k : Nat} {e : TypeId} {enc : α → List Value}
theorem flatK_list (hk : ∀ x, (enc x).length = k) (d : Array α) : flatK enc k d = (d.toList.flatMap enc).toArray := by
  refine ext_get! (by simp only [size_flatK, List.size_toArray, flat_length hk]; simp) fun t ht => ?_
  have ht' : t < d.size * k := by simpa using ht
  have k0 : 0 < k := by
    rcases Nat.eq_zero_or_pos k with h | h
    · subst h; simp at ht'
    · exact h
  have hj : t / k < d.size := (Nat.div_lt_iff_lt_mul k0).2 ht'
  have hi : t % k < k := Nat.mod_lt _ k0
  rw [get_flatK _ _ _ t ht']
  have hg := flat_get hk d.toList (t / k) (t % k) d[t / k] (by simp [hj]) hi
  rw [show t / k * k + t % k = t from by rw [Nat.mul_comm]; exact Nat.div_add_mod t k] at hg
  have hd : d[t / k]! = d[t / k] := getElem!_pos d (t / k) hj
  rw [hd]
  have hlt : t < (d.toList.flatMap enc).length := by rw [flat_length hk]; simpa using ht'
  have hlt2 : t % k < (enc d[t / k]).length := by rw [hk]; exact hi
  rw [List.getElem?_eq_getElem hlt, List.getElem?_eq_getElem hlt2] at hg
  have := Option.some.inj hg
  rw [getElem!_pos (enc d[t / k]) (t % k) hlt2, ← this]
  rw [getElem!_pos (d.toList.flatMap enc).toArray t (by simpa using hlt)]
  simp
theorem RowOf.holdsK {w : World} {base g n cap : Nat} {l : List α} (h : RowOf w base e k enc (.slice (some ⟨g, 0, none⟩) n cap) l) (hk : ∀ x, (enc x).length = k) : HoldsK enc k w g 0 l.toArray := by
  intro j hj
  rw [flatK_list hk] at hj ⊢
  have hj' : j < (l.flatMap enc).length := by simpa using hj
  have hc := World.ownsRow.cells h (g := g) rfl j ((l.flatMap enc)[j]) (List.getElem?_eq_getElem hj')
  rw [addr_add, Nat.zero_add] at hc
  refine ⟨by rw [Nat.zero_add, hc]; simp only [id, List.getElem!_toArray, List.getElem!_eq_getElem?_getD, List.getElem?_eq_getElem hj', Option.getD_some], by rw [Nat.zero_add]; exact h.frozen j⟩
theorem sortWorldK_other {w : World} {g m : Nat} {d : Array α} {os : Array Obj} {b : Nat} (hb : b < w.heap.size) (hne : b ≠ g) : (sortWorldK enc k w g 0 m d os).heap[b]? = w.heap[b]? := by
  unfold sortWorldK putRowK putRow mapBlock Go.Sort.ahead
  rw [heap_grow_old _ _ (by simpa using hb)]
  simp [Array.getElem?_modify, Ne.symm hne]
theorem sortWorldK_chg {w : World} {g m : Nat} {d : Array α} {os : Array Obj} : Chg (· = g) w (sortWorldK enc k w g 0 m d os) :=
  ⟨rfl, rfl, rfl, by simp [sortWorldK, putRowK, putRow, mapBlock, Go.Sort.ahead, Go.Sort.grow], fun _ hb hne => sortWorldK_other hb hne⟩
theorem RowOf.sorted {w : World} {base g n cap m : Nat} {l : List α} {d : Array α} {os : Array Obj} (h : RowOf w base e k enc (.slice (some ⟨g, 0, none⟩) n cap) l) (hk : ∀ x, (enc x).length = k) (hs : d.size = l.length) :
    RowOf (sortWorldK enc k w g 0 m d os) base e k enc (.slice (some ⟨g, 0, none⟩) n cap) d.toList := by
  obtain ⟨ao, cap', hv, _⟩ := h.shape
  cases hv
  obtain ⟨h1, h2⟩ := h
  rcases h2 with ⟨h2, _⟩ | ⟨g', cap', cur, h2, hb, hg, hn, hm, hc, ht⟩
  · cases h2
  · cases h2
    refine ⟨by rw [flat_length hk], .inr ⟨g, cap, putCells id 0 (flatK enc k d) cur, by simp [hs], hb, ?_, by simpa [hs] using hn, hm, by simp [putCells, hc], ?_⟩⟩
    · have hlt := (Array.getElem?_eq_some_iff.1 hg).1
      unfold sortWorldK putRowK putRow mapBlock Go.Sort.ahead
      rw [heap_grow_old _ _ (by simpa using hlt)]
      simp [Array.getElem?_modify, hg, onCells]
    · have hle : l.length * k ≤ cur.size := by rw [hc]; exact Nat.mul_le_mul_right _ hn
      apply List.ext_getElem?
      intro i
      rw [List.getElem?_take]
      have hsz : d.toList.length = l.length := by simpa using hs
      rw [hsz]
      split
      · rename_i hi
        have hi2 : i < cur.size := by omega
        have hif : i < (flatK enc k d).size := by rw [size_flatK, hs]; exact hi
        have h3 : (putCells id 0 (flatK enc k d) cur)[i]? = some ((flatK enc k d)[i]!) := by
          unfold putCells
          rw [Array.getElem?_mapIdx, Array.getElem?_eq_getElem hi2]
          simp [hs, hi]
        rw [Array.getElem?_toList, h3, flatK_list hk]
        have hi4 : i < (d.toList.flatMap enc).length := by rw [flat_length hk, hsz]; exact hi
        rw [getElem!_pos _ i (by simpa using hi4), List.getElem?_eq_getElem hi4]
        simp
      · rename_i hi
        rw [List.getElem?_eq_none (by rw [flat_length hk, hsz]; omega)]
end
end Go.Proofs.Ytgpholdeiahldaa
