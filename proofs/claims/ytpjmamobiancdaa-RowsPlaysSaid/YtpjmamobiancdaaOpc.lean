/- What came in: a slice of calls, as data. Conditions: none. -/
import Derived.Test.YtpjmamobiancdaaOpl
namespace Go.Proofs.Ytpjmamobiancdaa
open Go.ChangeShapes Go.RowKit Go.Maps Go.BigFrame
/-- A call: its kind, its transaction, its row. -/
abbrev Cl := Int × Int × X
def cellsC (c : Cl) : List Value := .int .i64 c.1 :: .int .i64 c.2.1 :: cellsR c.2.2
theorem cellsC_len (c : Cl) : (cellsC c).length = 10 := rfl
theorem at_eight {cs c : List Value} {i : Nat} (e : (cs.drop i).take (Try.prog.cellsOf 32) = c) : (cs.drop i).take 8 = c := by rwa [cells32] at e
theorem cells49 : Try.prog.cellsOf 49 = 10 := by kernel_rfl
section
variable {H : Type} {enc : TypeId × Value → H} {w : World} {base : Nat} {spare : Nat → Bool} {held : Bool}
theorem open_call {fuel : Nat} {cs : List Value} {x : DataW H × List MemPlace} (h : DataW.trod enc Try.prog w base spare held fuel 49 cs = some x) :
    ∃ c : Cl, cs = cellsC c ∧ SeesX w c.2.2 ∧ I64 c.2.1 := by
  obtain ⟨xs, k, hk, hxy, hcl, hxl, hf⟩ := DataW.trod_struct Try.underlying49 h
  rw [cells49] at hcl
  have hxl' : xs.length = 3 := hxl
  have h0 := hf 0 _ rfl
  have h1 := hf 1 _ rfl
  have h2 := hf 2 _ rfl
  rw [List.getElem?_eq_getElem (by omega)] at h0 h1 h2
  obtain ⟨kind, e0, _, w0⟩ := DataW.trod_int Try.underlying3 h0
  obtain ⟨tx, e1, _, w1⟩ := DataW.trod_int Try.underlying3 h1
  obtain ⟨r, mv, lv, e2, hms, hls, ht, hst⟩ := open_row h2
  have g0 : cs[0]? = some (.int .i64 kind) := at_one cells3 e0
  have g1 : cs[1]? = some (.int .i64 tx) := at_one cells3 e1
  have g2 : (cs.drop 2).take 8 = cellsR (r, mv, lv) := at_eight e2
  refine ⟨(kind, tx, r, mv, lv), ?_, ⟨hms, hls, ht, hst⟩, bounds_i64 w1⟩
  clear h0 h1 h2 e0 e1 e2 hf h
  match cs, hcl, g0, g1, g2 with
  | c0 :: c1 :: rest, hcl, g0, g1, g2 =>
    cases g0
    cases g1
    have hr : rest.length = 8 := by simpa using hcl
    have h3 : (List.drop 2 (Value.int .i64 kind :: Value.int .i64 tx :: rest)).take 8 = rest := by
      rw [List.drop_succ_cons, List.drop_succ_cons, List.drop_zero]
      exact List.take_of_length_le (by omega)
    rw [h3] at g2
    rw [g2]
    rfl
theorem open_calls {fuel : Nat} {cs : List Value} {x : DataW H × List MemPlace} (h : DataW.trod enc Try.prog w base spare held fuel 44 cs = some x) : ∃ (v : Value) (L : List Cl), cs = [v] ∧ Sees w cellsC v L ∧ (∀ c ∈ L, SeesX w c.2.2 ∧ I64 c.2.1) ∧ ∃ ao n c, v = .slice ao n c := by
  rcases Deep.open_slice Try.underlying44 h with ⟨hcs, _⟩ | ⟨ad, len, cap, m, n, D, Pl, hcs, _, hl, _, hm, _, hx⟩
  · exact ⟨_, [], hcs, Sees.nil w, by simp, _, _, _, rfl⟩
  · have hone : ∀ i, i < len → ∃ y : Cl, (∀ r u, (cellsC y)[r]? = some u → w.cell? (ad.add (i * 10 + r)) = some u) ∧ SeesX w y.2.2 ∧ I64 y.2.1 := by
      intro i hi
      have him : i < m := by
        rw [hm]
        split <;> omega
      obtain ⟨cs', h1, h2⟩ := hx i him
      rw [cells49] at h1
      obtain ⟨_, hlen, hcell⟩ := World.cells?_some h1
      obtain ⟨c, he, hs, ht⟩ := open_call h2
      refine ⟨c, fun j u hu => ?_, hs, ht⟩
      rw [← he] at hu
      have hj : j < 10 := by
        have := (List.getElem?_eq_some_iff.1 hu).1
        omega
      have hc := hcell j hj
      rw [hu, Deep.add_add] at hc
      exact hc
    obtain ⟨L, hLl, hp⟩ := list_of len hone
    refine ⟨_, L, hcs, ?_, fun y hy => ?_, _, _, _, rfl⟩
    · have hs : Sees w cellsC (.slice (some ad) L.length cap) L := Sees.of_cells (k := 10) cellsC_len (fun i a ha r u hu => (hp i a ha).1 r u hu)
      rw [hLl] at hs
      exact hs
    · obtain ⟨i, hi⟩ := List.getElem?_of_mem hy
      exact (hp i y hi).2
end
end Go.Proofs.Ytpjmamobiancdaa
