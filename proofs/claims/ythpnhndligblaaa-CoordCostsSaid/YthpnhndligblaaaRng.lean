/- Ranging over a map known as a list of pairs: what is still to come is a list too. Conditions: nothing is laid into the map meanwhile. -/
import Derived.Test.YthpnhndligblaaaBase
namespace Go.Proofs.Ythpnhndligblaaa
open Go.RowKit Go.Maps
section
variable {κ ν : Type} {P : Program} {k : TypeId} {enc : κ → Value} {val : ν → Value}
/-- Block b is the map l; block r an iterator over it; todo is what has not come yet. -/
def RangeAt (P : Program) (k : TypeId) (enc : κ → Value) (val : ν → Value) (w : World) (b r : Nat) (l todo : List (κ × ν)) : Prop :=
  MapIs P k enc val w b l ∧ todo.Sublist l ∧ ∃ es clock since seen c0, w.heap[b]? = some (.map es clock) ∧ w.heap[r]? = some (.mapIter (some b) since seen c0) ∧ (∀ x ∈ es.toList, x.born < since) ∧ since ≤ c0 ∧ since ≤ clock ∧
    (leftOf es seen).toList.map (fun e => (e.key, e.val)) = todo.map (fun p => (enc p.1, val p.2)) ∧ (es.toList.map (·.born)).Nodup
theorem RangeAt.lt {w : World} {b r : Nat} {l todo : List (κ × ν)} (h : RangeAt P k enc val w b r l todo) : r < w.heap.size := by
  obtain ⟨_, _, es, clock, since, seen, c0, _, hr, _⟩ := h
  exact (Array.getElem?_eq_some_iff.1 hr).1
theorem RangeAt.ne {w : World} {b r : Nat} {l todo : List (κ × ν)} (h : RangeAt P k enc val w b r l todo) : r ≠ b := by
  obtain ⟨_, _, es, clock, since, seen, c0, hb, hr, _⟩ := h
  rintro rfl
  rw [hb] at hr
  cases hr
theorem RangeAt.of_heap {w w' : World} {b r : Nat} {l todo : List (κ × ν)} (h : RangeAt P k enc val w b r l todo) (e : w'.heap[b]? = w.heap[b]?) (e' : w'.heap[r]? = w.heap[r]?) : RangeAt P k enc val w' b r l todo := by
  obtain ⟨hm, hs, es, clock, since, seen, c0, hb, hr, rest⟩ := h
  exact ⟨hm.of_heap e, hs, es, clock, since, seen, c0, e.trans hb, e'.trans hr, rest⟩
theorem RangeAt.chg {S : Nat → Prop} {w w' : World} {b r : Nat} {l todo : List (κ × ν)} (h : RangeAt P k enc val w b r l todo) (c : Chg S w w') (hb : ¬ S b) (hr : ¬ S r) : RangeAt P k enc val w' b r l todo :=
  h.of_heap (c.block b h.1.lt hb) (c.block r h.lt hr)
theorem RangeAt.alloc {w : World} {b r : Nat} {l todo : List (κ × ν)} (h : RangeAt P k enc val w b r l todo) (o : Obj) : RangeAt P k enc val (w.alloc o) b r l todo :=
  h.of_heap (Below.heap_alloc w o b h.1.lt) (Below.heap_alloc w o r h.lt)
theorem RangeAt.drew {w : World} {b r : Nat} {l todo : List (κ × ν)} (h : RangeAt P k enc val w b r l todo) : RangeAt P k enc val w.drew b r l todo := h
theorem RangeAt.grown {w w' : World} {row : Option Nat} {b r : Nat} {l todo : List (κ × ν)} (h : RangeAt P k enc val w b r l todo) (g : w.grownBy w' row) (hb : row ≠ some b) (hr : row ≠ some r) : RangeAt P k enc val w' b r l todo :=
  h.of_heap (g.block b h.1.lt (fun e => hb e.symm)) (g.block r h.lt (fun e => hr e.symm))
theorem RangeAt.left_eq {w : World} {b r : Nat} {l todo : List (κ × ν)} (h : RangeAt P k enc val w b r l todo) : w.rangeLeft b r = todo.length := by
  obtain ⟨_, _, es, clock, since, seen, c0, hb, hr, _, _, _, hl, _⟩ := h
  have := congrArg List.length hl
  simp only [World.rangeLeft, hb, hr]
  simpa using this
/-- 'range m'. -/
theorem MapIs.range {w : World} {b : Nat} {l : List (κ × ν)} {t e : TypeId} (h : MapIs P k enc val w b l) (ht : P.underlying t = some (.map k e)) :
    ∃ w', (Instr.range t (.map (some b))).run P w = .ok (.pointer (some ⟨w.heap.size, 0, none⟩)) w' ∧ RangeAt P k enc val w' b w.heap.size l l ∧ w.grownBy w' none ∧ w'.heap.size = w.heap.size + 1 := by
  have hlt := h.lt
  have h0 := h
  obtain ⟨es, clock, hb, hes, hn, hk, hst, hbn⟩ := h
  refine ⟨_, run_range_map w t k e b es clock ht hb, ⟨h0.alloc _, List.Sublist.refl _, es, clock, clock, #[], clock, (Below.heap_alloc w _ b hlt).trans hb, heap_alloc_new w _, hst, Nat.le_refl _, Nat.le_refl _, ?_, hbn⟩, World.grownBy_alloc w _ none, by simp⟩
  have : leftOf es #[] = es := by simp [leftOf]
  rw [this]
  exact hes
variable [DecidableEq κ]
omit [DecidableEq κ] in
theorem left_push {es : Array MapEntry} {seen : Array Nat} {e : MapEntry} : (leftOf es (seen.push e.born)).toList = (leftOf es seen).toList.filter (fun x => x.born ≠ e.born) := by
  unfold leftOf
  simp only [Array.toList_filter, List.filter_filter]
  congr 1
  funext x
  rw [contains_push]
  by_cases h : x.born = e.born <;> simp [h]
/-- THE STEP. -/
theorem RangeAt.next {w : World} {b r : Nat} {l todo : List (κ × ν)} (h : RangeAt P k enc val w b r l todo) (hinj : ∀ x y, enc x = enc y → x = y) (ty : TypeId) :
    (todo = [] ∧ (Instr.next (.pointer (some ⟨r, 0, none⟩)) false ty).run P w = .ok (.tuple #[.bool false]) w) ∨
    ∃ x v w', (x, v) ∈ todo ∧ (Instr.next (.pointer (some ⟨r, 0, none⟩)) false ty).run P w = .ok (.tuple #[.bool true, enc x, val v]) w' ∧ RangeAt P k enc val w' b r l (mdel todo x) ∧ w.grownBy w' (some r) ∧ w'.heap.size = w.heap.size ∧
      (Instr.entry (.pointer (some ⟨r, 0, none⟩))).run P w' = .ok (.tuple #[enc x, val v]) w' := by
  have hne := h.ne
  obtain ⟨hm, hsub, es, clock, since, seen, c0, hb, hr, hold, hsc, hsk, hl, hbn⟩ := h
  rcases run_next_at (P := P) w ty r b since c0 seen es clock hr hb hold hsc with ⟨h0, hrun⟩ | ⟨e, he, w1, hal, hrun⟩
  · left
    refine ⟨?_, hrun⟩
    have hz : leftOf es seen = #[] := Array.eq_empty_of_size_eq_zero h0
    rw [hz] at hl
    simpa using hl.symm
  · right
    obtain ⟨hem, hes⟩ := mem_left he
    have hmem : (e.key, e.val) ∈ todo.map (fun p => (enc p.1, val p.2)) := by rw [← hl]; exact List.mem_map.2 ⟨e, he, rfl⟩
    obtain ⟨⟨x, v⟩, hxv, hpe⟩ := List.mem_map.1 hmem
    simp only [Prod.mk.injEq] at hpe
    have hr1 : w1.heap[r]? = some (.mapIter (some b) since seen c0) := by rcases hal with rfl | rfl <;> exact hr
    have hb1 : w1.heap[b]? = some (.map es clock) := by rcases hal with rfl | rfl <;> exact hb
    have hset := MapKept.heap_set (o' := .mapIter (some b) since (seen.push e.born) clock) hr1
    have hb' : (ChangeMaps.setBlock w1 r (.mapIter (some b) since (seen.push e.born) clock)).heap[b]? = some (.map es clock) := (hset.2 b (fun e1 => hne e1.symm)).trans hb1
    have hg : w.grownBy (ChangeMaps.setBlock w1 r (.mapIter (some b) since (seen.push e.born) clock)) (some r) := by
      rcases hal with rfl | rfl <;> exact ⟨rfl, rfl, rfl, by simp [ChangeMaps.setBlock], fun i _ hi => hset.2 i (fun e1 => hi (by rw [e1]))⟩
    have hnd : (todo.map (·.1)).Nodup := hm.nodup.sublist (hsub.map _)
    refine ⟨x, v, _, hxv, by rw [hrun, ← hpe.1, ← hpe.2], ⟨hm.grown hg (by simpa using hne), (List.filter_sublist).trans hsub, es, clock, since, seen.push e.born, clock, hb', hset.1, hold, hsk, hsk, ?_, hbn⟩, hg, by rcases hal with rfl | rfl <;> simp [ChangeMaps.setBlock], ?_⟩
    · rw [left_push]
      -- by place: the one entry with this stamp is the one pair with this key
      have hlb : ((leftOf es seen).toList.map (·.born)).Nodup := by
        unfold leftOf
        rw [Array.toList_filter]
        exact hbn.sublist (List.filter_sublist.map _)
      have gen : ∀ (L : List MapEntry) (T : List (κ × ν)), L.map (fun e => (e.key, e.val)) = T.map (fun p => (enc p.1, val p.2)) → (L.map (·.born)).Nodup → (T.map (·.1)).Nodup → e ∈ L → (x, v) ∈ T → 
          (L.filter (fun y => y.born ≠ e.born)).map (fun e => (e.key, e.val)) = (mdel T x).map (fun p => (enc p.1, val p.2)) := by
        intro L
        induction L with
        | nil => intro T _ _ _ h; simp at h
        | cons y L ih =>
          intro T hT hb2 hk2 heL hxT
          cases T with
          | nil => simp at hT
          | cons q T =>
            simp only [List.map_cons, List.cons.injEq, Prod.mk.injEq] at hT
            obtain ⟨hb3, hb4⟩ := List.nodup_cons.1 hb2
            obtain ⟨hk3, hk4⟩ := List.nodup_cons.1 hk2
            by_cases hye : y.born = e.born
            · -- y is e
              have hyeq : y = e := by
                rcases List.mem_cons.1 heL with h1 | h1
                · exact h1.symm
                · exact absurd (List.mem_map.2 ⟨e, h1, hye.symm⟩) hb3
              have hq : q.1 = x := hinj _ _ (by rw [← hT.1.1, hyeq, hpe.1])
              have h1 : L.filter (fun y => y.born ≠ e.born) = L := List.filter_eq_self.2 (fun z hz => by
                have : z.born ≠ e.born := fun h2 => hb3 (List.mem_map.2 ⟨z, hz, h2.trans hye.symm⟩)
                simpa using this)
              have h2 : mdel T x = T := mdel_none (fun h2 => hk3 (show q.1 ∈ _ from by rw [hq]; exact h2))
              rw [List.filter_cons_of_neg (by simpa using hye), h1, show mdel (q :: T) x = mdel T x from by unfold mdel; rw [List.filter_cons_of_neg (by simpa using hq)], h2, hT.2]
            · have heL' : e ∈ L := by
                rcases List.mem_cons.1 heL with h1 | h1
                · exact absurd (by rw [h1]) hye
                · exact h1
              have hq : q.1 ≠ x := by
                intro h1
                rcases List.mem_cons.1 hxT with h2 | h2
                · -- the pair stands ahead; e's key stands again behind
                  have : (e.key, e.val) ∈ T.map (fun p => (enc p.1, val p.2)) := by rw [← hT.2]; exact List.mem_map.2 ⟨e, heL', rfl⟩
                  obtain ⟨p, hp, hp2⟩ := List.mem_map.1 this
                  simp only [Prod.mk.injEq] at hp2
                  have : p.1 = x := hinj _ _ (by rw [hp2.1, ← hpe.1])
                  exact hk3 (show q.1 ∈ _ from by rw [h1, ← this]; exact List.mem_map.2 ⟨p, hp, rfl⟩)
                · exact hk3 (show q.1 ∈ _ from by rw [h1]; exact List.mem_map.2 ⟨(x, v), h2, rfl⟩)
              have hxT' : (x, v) ∈ T := by
                rcases List.mem_cons.1 hxT with h2 | h2
                · exact absurd (by rw [← h2]) hq
                · exact h2
              rw [List.filter_cons_of_pos (by simpa using hye), show mdel (q :: T) x = q :: mdel T x from by unfold mdel; rw [List.filter_cons_of_pos (by simpa using hq)], List.map_cons, List.map_cons, ih T hT.2 hb4 hk4 heL' hxT', hT.1.1, hT.1.2]
      exact gen _ _ hl hlb hnd he hxv
    · have := run_entry_at (P := P) (ChangeMaps.setBlock w1 r (.mapIter (some b) since (seen.push e.born) clock)) r b since seen es clock e hset.1 hb' hem hbn
      rw [this, ← hpe.1, ← hpe.2]
variable {ops : Array Oper} {rest : List Oper} {o : Oper} {a : Act} {Q : Exit → Act → World → Prop} {w : World} {b r : Nat} {l todo : List (κ × ν)} {t e : TypeId}
omit [DecidableEq κ] in
theorem wpList_range (hown : MapIs P k enc val w b l) (ht : P.underlying t = some (.map k e)) (hg : o.guard = none) (x : Operand) (hop : o.op = Op.range t x) (hx : a.eval x = .map (some b))
    (h : ∀ w', RangeAt P k enc val w' b w.heap.size l l → w.grownBy w' none → w'.heap.size = w.heap.size + 1 → wpList P ops Q rest (a.put o.dst (.pointer (some ⟨w.heap.size, 0, none⟩))) w') : wpList P ops Q (o :: rest) a w := by
  refine wpList_plain hg fun K' hK' => ?_
  obtain ⟨w', hrun, h1, h2, h3⟩ := hown.range ht
  unfold Oper.wp
  simp [execOp, hop, hx, hrun, Result.andThen]
  exact hK' _ _ (h w' h1 h2 h3)
theorem wpList_next (hown : RangeAt P k enc val w b r l todo) (hinj : ∀ x y, enc x = enc y → x = y) (hg : o.guard = none) (it : Operand) (hop : o.op = Op.next it false) (hit : a.eval it = .pointer (some ⟨r, 0, none⟩))
    (hDone : todo = [] → wpList P ops Q rest (a.put o.dst (.tuple #[.bool false])) w)
    (hMore : ∀ x v w', (x, v) ∈ todo → RangeAt P k enc val w' b r l (mdel todo x) → w.grownBy w' (some r) → w'.heap.size = w.heap.size → (Instr.entry (.pointer (some ⟨r, 0, none⟩))).run P w' = .ok (.tuple #[enc x, val v]) w' → wpList P ops Q rest (a.put o.dst (.tuple #[.bool true, enc x, val v])) w') :
    wpList P ops Q (o :: rest) a w := by
  refine wpList_plain hg fun K' hK' => ?_
  unfold Oper.wp
  rcases hown.next hinj o.type with ⟨h0, hrun⟩ | ⟨x, v, w', h1, hrun, h2, h3, h4, h5⟩
  · simp [execOp, hop, hit, hrun, Result.andThen]
    exact hK' _ _ (hDone h0)
  · simp [execOp, hop, hit, hrun, Result.andThen]
    exact hK' _ _ (hMore x v w' h1 h2 h3 h4 h5)
end
end Go.Proofs.Ythpnhndligblaaa
