/- What came in: a slice of rows, as data. Conditions: none. -/
import Derived.Test.YtpjmamobiancdaaOpr
import Derived.Test.YtpjmamobiancdaaGr
namespace Go.Proofs.Ytpjmamobiancdaa
open Go.ChangeShapes Go.RowKit Go.Maps Go.BigFrame
/-- The lists of a row can be read. -/
def SeesX (w : World) (x : X) : Prop := Sees w cellsI x.2.1 x.1.ms ∧ Sees w cellsL x.2.2 x.1.ls ∧ I64 x.1.tx ∧ I64 x.1.state
theorem SeesX.shaped {w : World} {x : X} (h : SeesX w x) : Shaped x := by
  obtain ⟨a, c, h1⟩ := h.1.shape
  obtain ⟨b, d, h2⟩ := h.2.1.shape
  exact ⟨⟨a, c, h1⟩, ⟨b, d, h2⟩⟩
theorem SeesX.no {w w' : World} {x : X} (h : SeesX w x) (c : Chg NoB w w') : SeesX w' x := ⟨h.1.no c, h.2.1.no c, h.2.2⟩
section
variable {H : Type} {enc : TypeId × Value → H} {w : World} {base : Nat} {spare : Nat → Bool} {held : Bool}
theorem open_rows {fuel : Nat} {cs : List Value} {x : DataW H × List MemPlace} (h : DataW.trod enc Try.prog w base spare held fuel 22 cs = some x) : ∃ v L, cs = [v] ∧ Sees w cellsR v L ∧ (∀ x ∈ L, SeesX w x) ∧ ∃ ao n c, v = .slice ao n c := by
  rcases Deep.open_slice Try.underlying22 h with ⟨hcs, _⟩ | ⟨ad, len, cap, m, n, D, Pl, hcs, _, hl, _, hm, _, hx⟩
  · exact ⟨_, [], hcs, Sees.nil w, by simp, _, _, _, rfl⟩
  · have hone : ∀ i, i < len → ∃ y : X, (∀ r u, (cellsR y)[r]? = some u → w.cell? (ad.add (i * 8 + r)) = some u) ∧ SeesX w y := by
      intro i hi
      have him : i < m := by
        rw [hm]
        split <;> omega
      obtain ⟨cs', h1, h2⟩ := hx i him
      rw [cells32] at h1
      obtain ⟨_, hlen, hcell⟩ := World.cells?_some h1
      obtain ⟨r, mv, lv, he, hms, hls, ht, hst⟩ := open_row h2
      refine ⟨(r, mv, lv), fun j u hu => ?_, hms, hls, ht, hst⟩
      rw [← he] at hu
      have hj : j < 8 := by
        have := (List.getElem?_eq_some_iff.1 hu).1
        omega
      have hc := hcell j hj
      rw [hu, Deep.add_add] at hc
      exact hc
    obtain ⟨L, hLl, hp⟩ := list_of len hone
    refine ⟨_, L, hcs, ?_, fun y hy => ?_, _, _, _, rfl⟩
    · have hs : Sees w cellsR (.slice (some ad) L.length cap) L := Sees.of_cells (k := 8) cellsR_len (fun i a ha r u hu => (hp i a ha).1 r u hu)
      rw [hLl] at hs
      exact hs
    · obtain ⟨i, hi⟩ := List.getElem?_of_mem hy
      exact (hp i y hi).2
end
end Go.Proofs.Ytpjmamobiancdaa
