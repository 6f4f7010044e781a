/- What came in: a row, by value or in a slice, as data. Conditions: none. -/
import Derived.Test.YtpjmamobiancdaaAl
import Derived.Deep.Slices
import Derived.OpenShut
import Derived.ChangeSlices
namespace Go.Proofs.Ytpjmamobiancdaa
open Go.ChangeShapes Go.RowKit Go.Maps Go.BigFrame
section
variable {α : Type} {enc : α → List Value}
theorem list_of {α : Type} {P : Nat → α → Prop} : ∀ (n : Nat), (∀ i, i < n → ∃ y, P i y) → ∃ l : List α, l.length = n ∧ ∀ i y, l[i]? = some y → P i y
  | 0, _ => ⟨[], rfl, fun i y h => by simp at h⟩
  | n + 1, h => by
    obtain ⟨l, hl, hp⟩ := list_of n (fun i hi => h i (by omega))
    obtain ⟨y, hy⟩ := h n (by omega)
    refine ⟨l ++ [y], by simp [hl], fun i z hz => ?_⟩
    by_cases hi : i < n
    · rw [List.getElem?_append_left (by omega)] at hz
      exact hp i z hz
    · rw [List.getElem?_append_right (by omega)] at hz
      have hi0 : i = n := by
        have := (List.getElem?_eq_some_iff.1 hz).1
        simp at this
        omega
      subst hi0
      rw [hl, Nat.sub_self] at hz
      simp at hz
      subst hz
      exact hy
theorem flat_idx (k : Nat) (hk : ∀ x, (enc x).length = k) : ∀ (l : List α) (j : Nat) (u : Value), (l.flatMap enc)[j]? = some u → ∃ i r a, j = i * k + r ∧ l[i]? = some a ∧ (enc a)[r]? = some u
  | [], j, u, h => by simp at h
  | x :: l, j, u, h => by
    rw [List.flatMap_cons] at h
    by_cases hj : j < k
    · rw [List.getElem?_append_left (by rw [hk]; exact hj)] at h
      exact ⟨0, j, x, by omega, rfl, h⟩
    · rw [List.getElem?_append_right (by rw [hk]; omega), hk] at h
      obtain ⟨i, r, a, h1, h2, h3⟩ := flat_idx k hk l (j - k) u h
      exact ⟨i + 1, r, a, by rw [Nat.add_mul]; omega, h2, h3⟩
theorem Sees.of_cells {w : World} {ad : Addr} {c k : Nat} {l : List α} (hk : ∀ x, (enc x).length = k) (h : ∀ i a, l[i]? = some a → ∀ r u, (enc a)[r]? = some u → w.cell? (ad.add (i * k + r)) = some u) : Sees w enc (.slice (some ad) l.length c) l := by
  refine ⟨some ad, c, rfl, (fun h => by cases h), fun ad' he j u hu => ?_⟩
  cases he
  obtain ⟨i, r, a, rfl, h2, h3⟩ := flat_idx k hk l j u hu
  exact h i a h2 r u h3
end
section
variable {H : Type} {enc : TypeId × Value → H} {w : World} {base : Nat} {spare : Nat → Bool} {held : Bool}
theorem open_members {fuel : Nat} {cs : List Value} {x : DataW H × List MemPlace} (h : DataW.trod enc Try.prog w base spare held fuel 29 cs = some x) : ∃ v l, cs = [v] ∧ Sees w cellsI v l ∧ ∃ ao n c, v = .slice ao n c := by
  rcases open_ints Try.underlying29 Try.underlying3 (by kernel_rfl) h with ⟨hcs, _⟩ | ⟨ad, len, cap, zs, hcs, _, hl, _, hz, _, hcell, _⟩
  · exact ⟨_, [], hcs, Sees.nil w, _, _, _, rfl⟩
  · have hlen : (zs.take len).length = len := by
      rw [List.length_take, hz]
      split <;> omega
    refine ⟨_, zs.take len, hcs, ?_, _, _, _, rfl⟩
    have hs : Sees w cellsI (.slice (some ad) (zs.take len).length cap) (zs.take len) := by
      refine Sees.of_cells (k := 1) cellsI_len (fun i a ha r u hu => ?_)
      rw [List.getElem?_take] at ha
      split at ha
      · have hlt := (List.getElem?_eq_some_iff.1 ha).1
        have h2 := hcell i hlt
        rw [List.getD_eq_getElem?_getD, ha] at h2
        have hr : r = 0 := by
          have := (List.getElem?_eq_some_iff.1 hu).1
          simp [cellsI] at this
          omega
        subst hr
        simp [cellsI] at hu
        subst hu
        simpa using h2
      · cases ha
    rw [hlen] at hs
    exact hs
theorem cells42 : Try.prog.cellsOf 42 = 2 := by kernel_rfl
theorem cells9 : Try.prog.cellsOf 9 = 1 := by kernel_rfl
theorem cells4 : Try.prog.cellsOf 4 = 1 := by kernel_rfl
theorem cells3 : Try.prog.cellsOf 3 = 1 := by kernel_rfl
theorem cells29 : Try.prog.cellsOf 29 = 1 := by kernel_rfl
theorem cells30 : Try.prog.cellsOf 30 = 1 := by kernel_rfl
theorem cells32 : Try.prog.cellsOf 32 = 8 := by kernel_rfl
theorem at_one {cs : List Value} {i n : Nat} {v : Value} (hn : n = 1) (h : (cs.drop i).take n = [v]) : cs[i]? = some v := by
  subst hn
  have : ((cs.drop i).take 1)[0]? = some v := by rw [h]; rfl
  simpa using this
theorem open_locks {fuel : Nat} {cs : List Value} {x : DataW H × List MemPlace} (h : DataW.trod enc Try.prog w base spare held fuel 30 cs = some x) : ∃ v l, cs = [v] ∧ Sees w cellsL v l ∧ ∃ ao n c, v = .slice ao n c := by
  rcases Deep.open_slice Try.underlying30 h with ⟨hcs, _⟩ | ⟨ad, len, cap, m, n, D, Pl, hcs, _, hl, _, hm, _, hx⟩
  · exact ⟨_, [], hcs, Sees.nil w, _, _, _, rfl⟩
  · have hone : ∀ i, i < len → ∃ y : Lk, w.cell? (ad.add (i * 2)) = some (.string y.1) ∧ w.cell? (ad.add (i * 2 + 1)) = some (.bool y.2) := by
      intro i hi
      have him : i < m := by
        rw [hm]
        split <;> omega
      obtain ⟨cs', h1, h2⟩ := hx i him
      rw [cells42] at h1
      obtain ⟨_, hlen, hcell⟩ := World.cells?_some h1
      obtain ⟨xs, k, hk, hxy, _, hxl, hf⟩ := DataW.trod_struct Try.underlying42 h2
      have h3 := hf 0 _ rfl
      have h4 := hf 1 _ rfl
      rw [List.getElem?_eq_getElem (by rw [hxl]; decide)] at h3 h4
      obtain ⟨s, hs, _⟩ := DataW.trod_string Try.underlying9 h3
      obtain ⟨b, hb, _⟩ := DataW.trod_bool Try.underlying4 h4
      have e0 : cs'[0]? = some (.string s) := at_one cells9 hs
      have e1 : cs'[1]? = some (.bool b) := at_one cells4 hb
      have c0 := hcell 0 (by omega)
      have c1 := hcell 1 (by omega)
      rw [e0] at c0
      rw [e1] at c1
      refine ⟨(s, b), by simpa [Addr.add] using c0, ?_⟩
      rw [addr_field _ _ _ (by omega)]
      simpa [Addr.add] using c1
    obtain ⟨l, hll, hp⟩ := list_of len hone
    refine ⟨_, l, hcs, ?_, _, _, _, rfl⟩
    have hs : Sees w cellsL (.slice (some ad) l.length cap) l := by
      refine Sees.of_cells (k := 2) cellsL_len (fun i a ha r u hu => ?_)
      obtain ⟨h0, h1⟩ := hp i a ha
      have hr : r = 0 ∨ r = 1 := by
        have := (List.getElem?_eq_some_iff.1 hu).1
        simp [cellsL] at this
        omega
      rcases hr with rfl | rfl
      · simp [cellsL] at hu
        subst hu
        simpa using h0
      · simp [cellsL] at hu
        subst hu
        exact h1
    rw [hll] at hs
    exact hs
/-- A row's eight cells. -/
theorem open_row {fuel : Nat} {cs : List Value} {x : DataW H × List MemPlace} (h : DataW.trod enc Try.prog w base spare held fuel 32 cs = some x) :
    ∃ r mv lv, cs = cellsR (r, mv, lv) ∧ Sees w cellsI mv r.ms ∧ Sees w cellsL lv r.ls ∧ I64 r.tx ∧ I64 r.state := by
  obtain ⟨xs, k, hk, hxy, hcl, hxl, hf⟩ := DataW.trod_struct Try.underlying32 h
  rw [cells32] at hcl
  have hxl' : xs.length = 8 := hxl
  have h0 := hf 0 _ rfl
  have h1 := hf 1 _ rfl
  have h2 := hf 2 _ rfl
  have h3 := hf 3 _ rfl
  have h4 := hf 4 _ rfl
  have h5 := hf 5 _ rfl
  have h6 := hf 6 _ rfl
  have h7 := hf 7 _ rfl
  rw [List.getElem?_eq_getElem (by omega)] at h0 h1 h2 h3 h4 h5 h6 h7
  obtain ⟨tx, e0, _, w0⟩ := DataW.trod_int Try.underlying3 h0
  obtain ⟨state, e1, _, w1⟩ := DataW.trod_int Try.underlying3 h1
  obtain ⟨first, e2, _, w2⟩ := DataW.trod_int Try.underlying3 h2
  obtain ⟨last, e3, _, w3⟩ := DataW.trod_int Try.underlying3 h3
  obtain ⟨undo, e4, _, w4⟩ := DataW.trod_int Try.underlying3 h4
  obtain ⟨coord, e5, _, w5⟩ := DataW.trod_int Try.underlying3 h5
  obtain ⟨mv, ms, e6, hms, _⟩ := open_members h6
  obtain ⟨lv, ls, e7, hls, _⟩ := open_locks h7
  refine ⟨⟨tx, state, first, last, undo, coord, ms, ls⟩, mv, lv, ?_, hms, hls, bounds_i64 w0, bounds_i64 w1⟩
  have g0 : cs[0]? = some (.int .i64 tx) := at_one cells3 e0
  have g1 : cs[1]? = some (.int .i64 state) := at_one cells3 e1
  have g2 : cs[2]? = some (.int .i64 first) := at_one cells3 e2
  have g3 : cs[3]? = some (.int .i64 last) := at_one cells3 e3
  have g4 : cs[4]? = some (.int .i64 undo) := at_one cells3 e4
  have g5 : cs[5]? = some (.int .i64 coord) := at_one cells3 e5
  have g6 : cs[6]? = some mv := at_one cells29 e6
  have g7 : cs[7]? = some lv := at_one cells30 e7
  clear h0 h1 h2 h3 h4 h5 h6 h7 e0 e1 e2 e3 e4 e5 e6 e7 hf h
  match cs, hcl, g0, g1, g2, g3, g4, g5, g6, g7 with
  | [c0, c1, c2, c3, c4, c5, c6, c7], _, g0, g1, g2, g3, g4, g5, g6, g7 =>
    cases g0; cases g1; cases g2; cases g3; cases g4; cases g5; cases g6; cases g7
    rfl
end
end Go.Proofs.Ytpjmamobiancdaa
