/- What a coordinator does, as data. Conditions: none. -/
import Derived.Test.YthpnhndligblaaaCm
namespace Go.Proofs.Ythpnhndligblaaa
open Go.RowKit Go.Maps Go.BigFrame
/-! ### lists of nodes -/
theorem pw_len : ∀ (l : List Int) (a : Int), l.Pairwise (· < ·) → (∀ n ∈ l, a ≤ n ∧ n < 8) → a ≤ 8 → (l.length : Int) ≤ 8 - a
  | [], a, _, _, h => by simp; omega
  | x :: t, a, hp, hr, _ => by
    obtain ⟨h1, h2⟩ := List.pairwise_cons.1 hp
    have hx := hr x (List.mem_cons_self ..)
    have := pw_len t (x + 1) h2 (fun n hn => ⟨by have := h1 n hn; omega, (hr n (List.mem_cons_of_mem _ hn)).2⟩) (by omega)
    rw [List.length_cons]
    omega
theorem len8 {l : List Int} (hp : l.Pairwise (· < ·)) (hr : ∀ n ∈ l, 0 ≤ n ∧ n < 8) : l.length ≤ 8 := by
  have := pw_len l 0 hp hr (by omega)
  omega
theorem mem_insI {l : List Int} {i : Nat} {x y : Int} : y ∈ insI l i x ↔ y = x ∨ y ∈ l := by
  unfold insI
  rw [List.mem_append, List.mem_cons]
  conv => rhs; rw [← List.take_append_drop i l, List.mem_append]
  constructor
  · rintro (h | h | h)
    · exact .inr (.inl h)
    · exact .inl h
    · exact .inr (.inr h)
  · rintro (h | h | h)
    · exact .inr (.inl h)
    · exact .inl h
    · exact .inr (.inr h)
theorem insI_cons {a : Int} {t : List Int} {x : Int} (hp : (a :: t).Pairwise (· < ·)) (hx : x ≠ a) : insI (a :: t) ((a :: t).countP (· < x)) x = if a < x then a :: insI t (t.countP (· < x)) x else x :: a :: t := by
  obtain ⟨h1, _⟩ := List.pairwise_cons.1 hp
  by_cases h : a < x
  · rw [if_pos h, List.countP_cons_of_pos (by simpa using h)]
    rfl
  · rw [if_neg h]
    have : (a :: t).countP (· < x) = 0 := List.countP_eq_zero.2 (fun y hy => by
      rcases List.mem_cons.1 hy with rfl | hy
      · simpa using h
      · have := h1 y hy
        simp
        omega)
    rw [this]
    rfl
theorem ins_pw : ∀ {l : List Int} {x : Int}, l.Pairwise (· < ·) → x ∉ l → (insI l (l.countP (· < x)) x).Pairwise (· < ·)
  | [], x, _, _ => by simp [insI]
  | a :: t, x, hp, hx => by
    obtain ⟨h1, h2⟩ := List.pairwise_cons.1 hp
    simp only [List.mem_cons, not_or] at hx
    rw [insI_cons hp hx.1]
    split
    · rename_i h
      refine List.pairwise_cons.2 ⟨fun y hy => ?_, ins_pw h2 hx.2⟩
      rcases mem_insI.1 hy with rfl | hy
      · exact h
      · exact h1 y hy
    · rename_i h
      have hxa : x < a := by have := hx.1; omega
      refine List.pairwise_cons.2 ⟨fun y hy => ?_, hp⟩
      rcases List.mem_cons.1 hy with rfl | hy
      · exact hxa
      · have := h1 y hy
        omega
theorem drop_pw {l : List Int} {x : Int} (h : l.Pairwise (· < ·)) : (dropI l x).Pairwise (· < ·) := h.sublist (List.filter_sublist)
theorem mem_dropI {l : List Int} {x y : Int} : y ∈ dropI l x ↔ y ∈ l ∧ y ≠ x := by simp [dropI]
theorem add_pw {l : List Int} {x : Int} (h : l.Pairwise (· < ·)) : (addI l x).Pairwise (· < ·) := by
  unfold addI
  split
  · exact h
  · rename_i hc
    exact ins_pw h (by simpa using hc)
theorem mem_addI {l : List Int} {x y : Int} : y ∈ addI l x ↔ y = x ∨ y ∈ l := by
  unfold addI
  split
  · rename_i hc
    constructor
    · exact .inr
    · rintro (rfl | h)
      · simpa using hc
      · exact h
  · exact mem_insI
/-! ### the entries -/
def findE (es : List En) (tx : Int) : Option En := es.find? (fun e => e.tx == tx)
def repE (es : List En) (tx : Int) (e' : En) : List En := es.map (fun e => if e.tx = tx then e' else e)
def delE (es : List En) (tx : Int) : List En := es.filter (fun e => e.tx ≠ tx)
/-- The entries of what lies in memory. -/
abbrev esOf (l : List Ep) : List En := l.map (·.e)
theorem find_none {l : List Ep} {tx : Int} (h : findE (esOf l) tx = none) : tx ∉ l.map (·.e.tx) := by
  intro hm
  obtain ⟨p, hp, rfl⟩ := List.mem_map.1 hm
  have := List.find?_eq_none.1 h p.e (List.mem_map.2 ⟨p, hp, rfl⟩)
  simp at this
theorem find_none' {l : List Ep} {tx : Int} (h : tx ∉ l.map (·.e.tx)) : findE (esOf l) tx = none := by
  refine List.find?_eq_none.2 fun e he => ?_
  obtain ⟨p, hp, rfl⟩ := List.mem_map.1 he
  have : p.e.tx ≠ tx := fun e => h (List.mem_map.2 ⟨p, hp, e⟩)
  simpa using this
theorem find_some {l : List Ep} {tx : Int} {e : En} (h : findE (esOf l) tx = some e) : ∃ l1 l2 p, l = l1 ++ p :: l2 ∧ p.e = e ∧ e.tx = tx := by
  induction l with
  | nil => cases h
  | cons q t ih =>
    unfold findE esOf at h
    rw [List.map_cons, List.find?_cons] at h
    split at h
    · rename_i hq
      exact ⟨[], t, q, rfl, by simpa using h, by cases h; simpa using hq⟩
    · obtain ⟨l1, l2, p, h1, h2, h3⟩ := ih h
      exact ⟨q :: l1, l2, p, by rw [h1]; rfl, h2, h3⟩
theorem nd_mid {l1 l2 : List Ep} {p : Ep} (hn : ((l1 ++ p :: l2).map (·.e.tx)).Nodup) : (∀ q ∈ l1, q.e.tx ≠ p.e.tx) ∧ ∀ q ∈ l2, q.e.tx ≠ p.e.tx := by
  rw [List.map_append, List.map_cons, List.nodup_append] at hn
  obtain ⟨_, h2, h3⟩ := hn
  exact ⟨fun q hq => h3 _ (List.mem_map_of_mem hq) _ (List.mem_cons_self ..), fun q hq e => (List.nodup_cons.1 h2).1 (by rw [← e]; exact List.mem_map_of_mem hq)⟩
theorem rep_mid {l1 l2 : List Ep} {p p' : Ep} (hn : ((l1 ++ p :: l2).map (·.e.tx)).Nodup) {e' : En} (he : p'.e = e') : esOf (l1 ++ p' :: l2) = repE (esOf (l1 ++ p :: l2)) p.e.tx e' := by
  obtain ⟨h1, h2⟩ := nd_mid hn
  unfold repE esOf
  rw [List.map_map, List.map_append, List.map_append, List.map_cons, List.map_cons]
  congr 1
  · exact List.map_congr_left fun q hq => by simp [h1 q hq]
  · congr 1
    · simp [he]
    · exact List.map_congr_left fun q hq => by simp [h2 q hq]
theorem del_mid {l1 l2 : List Ep} {p : Ep} (hn : ((l1 ++ p :: l2).map (·.e.tx)).Nodup) : esOf (l1 ++ l2) = delE (esOf (l1 ++ p :: l2)) p.e.tx := by
  obtain ⟨h1, h2⟩ := nd_mid hn
  unfold delE esOf
  rw [List.map_append, List.map_append, List.map_cons, List.filter_append, List.filter_cons_of_neg (by simp)]
  congr 1
  · refine (List.filter_eq_self.2 fun e he => ?_).symm
    obtain ⟨q, hq, rfl⟩ := List.mem_map.1 he
    simpa using h1 q hq
  · refine (List.filter_eq_self.2 fun e he => ?_).symm
    obtain ⟨q, hq, rfl⟩ := List.mem_map.1 he
    simpa using h2 q hq
/-! ### the steps -/
def openD (me : Int) (es : List En) (tx : Int) : Int × List En :=
  if mineB me tx = false then (1, es) else if (findE es tx).isSome then (160, es) else if 64 ≤ es.length then (162, es) else (0, es ++ [newE tx])
def enlistD (es : List En) (tx node : Int) : Int × List En :=
  match findE es tx with
  | none => (160, es)
  | some e => if node < 0 ∨ 8 ≤ node then (1, es) else if e.phase ≠ 3 then (161, es) else (0, repE es tx { e with mem := addI e.mem node })
def askD (me : Int) (es : List En) (tx : Int) : Int × Dl × List En :=
  match findE es tx with
  | none => (160, noDeal, es)
  | some e => if e.phase ≠ 3 then (161, noDeal, es) else if e.mem = [] then (0, ⟨[], 0, 0, [], 1⟩, delE es tx) else (0, ⟨toM 1 me e.tx e.mem e.mem, 0, 0, [], 0⟩, repE es tx { e with phase := 4, aw := e.mem })
def voteD (me : Int) (es : List En) (m : Mg) : Dl × List En :=
  if heardB me m [2, 3, 4] = false then (noDeal, es) else
  match findE es m.tx with
  | none => (noDeal, es)
  | some e =>
    if e.phase ≠ 4 ∨ e.aw.contains m.frm = false then (noDeal, es) else
    if m.kind = 4 then (⟨toM 6 me e.tx e.mem (sortI (sortI (dropI e.aw m.frm) ++ e.yes)), 0, 0, [], 2⟩, delE es m.tx) else
    if dropI e.aw m.frm ≠ [] then (noDeal, repE es m.tx { e with aw := dropI e.aw m.frm, yes := if m.kind = 2 then insI e.yes (e.yes.countP (· < m.frm)) m.frm else e.yes }) else
    if m.kind ≠ 2 ∧ e.yes = [] then (⟨[], 0, 0, [], 1⟩, delE es m.tx) else
    (⟨[], 9, e.tx, if m.kind = 2 then insI e.yes (e.yes.countP (· < m.frm)) m.frm else e.yes, 0⟩, repE es m.tx { e with phase := 5, aw := if m.kind = 2 then insI e.yes (e.yes.countP (· < m.frm)) m.frm else e.yes, yes := if m.kind = 2 then insI e.yes (e.yes.countP (· < m.frm)) m.frm else e.yes })
def sureD (me : Int) (es : List En) (tx : Int) : Dl × List En :=
  match findE es tx with
  | none => (noDeal, es)
  | some e => if e.phase ≠ 5 ∨ e.sure = true then (noDeal, es) else (⟨toM 5 me e.tx e.mem (sortI e.aw), 0, 0, [], 1⟩, repE es tx { e with sure := true })
def ackD (me : Int) (es : List En) (m : Mg) : Dl × List En :=
  if heardB me m [7] = false then (noDeal, es) else
  match findE es m.tx with
  | none => (noDeal, es)
  | some e => if e.sure = false then (noDeal, es) else if dropI e.aw m.frm ≠ [] then (noDeal, repE es m.tx { e with aw := dropI e.aw m.frm }) else (⟨[], 10, e.tx, [], 0⟩, delE es m.tx)
def quitD (me : Int) (es : List En) (tx : Int) : Int × Dl × List En :=
  match findE es tx with
  | none => (160, noDeal, es)
  | some e => if e.phase = 5 then (161, noDeal, es) else (0, ⟨toM 6 me e.tx e.mem (quitN e), 0, 0, [], 2⟩, delE es tx)
def inquireD (me : Int) (es : List En) (m : Mg) : Dl :=
  if heardB me m [8] = false then noDeal else
  match findE es m.tx with
  | none => if mineB me m.tx = false then noDeal else ⟨toM 6 me m.tx [] [m.frm], 0, 0, [], 0⟩
  | some e => if e.sure = false then noDeal else ⟨toM 5 me e.tx e.mem [m.frm], 0, 0, [], 0⟩
def phaseD (es : List En) (tx : Int) : Int := match findE es tx with | none => 0 | some e => e.phase
/-- What holds of every entry. -/
structure OkP (me : Int) (p : Ep) : Prop where
  mine : mineB me p.e.tx = true
  mp : p.e.mem.Pairwise (· < ·)
  mr : ∀ n ∈ p.e.mem, 0 ≤ n ∧ n < 8
  yp : p.e.yes.Pairwise (· < ·)
  yr : ∀ n ∈ p.e.yes, 0 ≤ n ∧ n < 8
  ap : p.e.aw.Pairwise (· < ·)
  ar : ∀ n ∈ p.e.aw, 0 ≤ n ∧ n < 8
  su : p.e.sure = true → p.e.phase = 5
  ao : p.e.phase ≠ 3 → p.ao ≠ none
  ay : p.e.phase = 4 → ∀ n ∈ p.e.aw, n ∉ p.e.yes
  y0 : p.e.phase = 3 → p.e.yes = []
end Go.Proofs.Ythpnhndligblaaa
