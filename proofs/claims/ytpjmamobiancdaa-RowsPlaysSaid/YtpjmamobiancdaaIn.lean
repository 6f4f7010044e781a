/- The table of rows: who is in a state. Conditions: at most 2^32 rows. -/
import Derived.Test.YtpjmamobiancdaaAl
namespace Go.Proofs.Ytpjmamobiancdaa
open Go.RowKit Go.Maps Go.BigFrame
def inOf (s : Int) (l : List Rw) : List Int := (l.filter (fun r => r.state == s)).map (·.tx)
theorem inOf_snoc (s : Int) (l : List Rw) (r : Rw) : inOf s (l ++ [r]) = inOf s l ++ (if (r.state == s) = true then [r.tx] else []) := by
  unfold inOf
  rw [List.filter_append, List.map_append]
  congr 1
  by_cases h : (r.state == s) = true
  · rw [if_pos h]; simp only [List.filter_cons, h, if_true, List.filter_nil]; rfl
  · rw [if_neg h]; simp only [List.filter_cons, h, List.filter_nil]; rfl
theorem inOf_len (s : Int) (l : List Rw) : (inOf s l).length ≤ l.length := by
  unfold inOf
  rw [List.length_map]
  exact List.length_filter_le _ _
theorem in_nil (s : Int) (w : World) : Calls Try.prog 26 #[.pointer none, .int .i64 s] w fun e w' => e = .returned (.slice none 0 0) ∧ Chg NoB w w' := by
  have h := all_nil w
  go_enter Try.func26, Try.ntmps26
  go_wp2_with (go_at_call 13; refine h.mono ?_; clear h; rintro e w2 ⟨rfl, hc2⟩)
  go_loopw [5, 11] (fun v i wr => v = .slice none 0 0 ∧ i = .int .i64 0 ∧ Chg NoB w wr) (fun _ _ _ => 0)
  case atStart => exact ⟨rfl, rfl, hc2⟩
  case round =>
    obtain ⟨rfl, rfl, hcw⟩ := hrel
    go_wp2
    go_ret
    exact ⟨rfl, hcw⟩
set_option maxHeartbeats 2000000 in
theorem in_any (bt bm : Nat) (l : List (Int × X)) (s : Int) (w : World) (ht : TAt w bt bm l) (hlen : l.length ≤ 4294967296) :
    Calls Try.prog 26 #[.pointer (some ⟨bt, 0, none⟩), .int .i64 s] w fun e w' => ∃ v, e = .returned v ∧ IRow w' w.heap.size v (inOf s ((sortI (l.map (·.1))).map (fun k => (lookX l k).1))) ∧ Chg NoB w w' := by
  obtain ⟨i0, hi, hz0, hz1, hz2⟩ := info_parts info3
  have h := all_any bt bm l w ht hlen
  have hnl : ((sortI (l.map (·.1))).map (fun k => (lookX l k).1)).length = l.length := by unfold sortI; simp
  generalize (sortI (l.map (·.1))).map (fun k => (lookX l k).1) = m at h hnl ⊢
  clear ht
  go_enter Try.func26, Try.ntmps26
  go_wp2_with (first | (go_at_call 13; refine h.mono ?_; clear h; rintro e w2 ⟨v, L, rfl, hrow, hxs, hL, hc2⟩; obtain ⟨ao, cap, rfl, _⟩ := hrow.shape) | fail)
  have hLl : L.length = l.length := by rw [← hnl, ← hL, List.length_map]
  go_loopw [5, 11] (fun v i wr => ∃ k : Nat, i = .int .i64 k ∧ k ≤ L.length ∧ IRow wr w2.heap.size v (inOf s (m.take k)) ∧ Chg NoB w2 wr) (fun _ i _ => L.length - (intOf i).toNat)
  case atStart => exact ⟨0, rfl, Nat.zero_le _, RowOf.nil _ _, Chg.refl _ _⟩
  case round =>
    obtain ⟨k, rfl, hk, hir, hcr⟩ := hrel
    by_cases hlt' : k < L.length
    · obtain ⟨x, hx⟩ : ∃ x, L[k]? = some x := ⟨L[k], List.getElem?_eq_getElem hlt'⟩
      have hmx : m[k]? = some x.1 := by rw [← hL, List.getElem?_map, hx]; rfl
      have hsn := inOf_snoc s (m.take k) x.1
      have htk : m.take k ++ [x.1] = m.take (k + 1) := by rw [List.take_add_one, hmx]; rfl
      rw [htk] at hsn
      have hil := inOf_len s (m.take k)
      rw [List.length_take] at hil
      have hR := (hxs x (List.mem_of_getElem? hx)).no hcr
      obtain ⟨g, cap', hv, _, _, hgl⟩ := xrow_some hrow hlt'
      cases hv
      obtain ⟨q0, q1, q2, q3, q4, q5, q6, q7⟩ := xrow_cells (hrow.chg hcr (by simp [NoB])) hx
      have hgr : g < wr.heap.size := Nat.lt_of_lt_of_le hgl hcr.size
      obtain ⟨oa, oc, rfl, _⟩ := hir.shape
      have hl1 : ((k : Int) < (L.length : Int)) := by omega
      have hi1 : (0 : Int) ≤ (k : Int) := by omega
      obtain ⟨⟨tx', state, first, last, undo, coord, ms, ls⟩, mv, lv⟩ := x
      obtain ⟨am, cm, al, cl, e1, e2⟩ := hR.shapes
      simp only at e1 e2
      subst e1
      subst e2
      simp only at q0 q1 q2 q3 q4 q5 q6 q7
      have hLb : L.length ≤ 4294967296 := by omega
      clear hR hL hxs htk hmx hx hLl hnl
      simp only at hsn
      by_cases hst : state = s
      · have hb : (state == s) = true := by simpa using hst
        rw [hb, if_pos rfl] at hsn
        clear hst
        go_wp2_with (at_builtin; refine stop ?_)
        unfold Stop
        have HS := Lib.hid hsn
        clear hsn
        refine wpList_app ((hir.alloc _).alloc _) (SrcOf.one (a := tx') (At.newAt ?_)) cellsI_len cellsI_one (by omega) 29 i0 _ 8 Try.underlying29 hi hz0 hz1 hz2 rfl rfl _ _ rfl rfl rfl ?_ ?_ ?_ ?_
        · simp
        · simp [maxLen]; omega
        · omega
        · have := hcr.size; simp; omega
        · intro v3 w3 hr3 hg3 _
          go_wp2
          exact ⟨⟨k + 1, by go_num, by omega, by rw [HS.out]; exact hr3, ((hcr.alloc _).alloc _).grown hg3 (by intro k hk hk2; have := (hir.ge k hk).1; omega)⟩, by simp [intOf]; omega⟩
      · have hb : (state == s) = false := by simpa using hst
        rw [hb, if_neg (by simp), List.append_nil] at hsn
        have HS := Lib.hid hsn
        clear hsn hst
        go_wp2
        exact ⟨⟨k + 1, by go_num, by omega, by rw [HS.out]; exact hir.alloc _, hcr.alloc _⟩, by simp [intOf]; omega⟩
    · obtain rfl : k = L.length := by omega
      have hd1 : decide ((L.length : Int) < (L.length : Int)) = false := by simp
      rw [hLl, ← hnl, List.take_length] at hir
      have hsz := hc2.size
      obtain ⟨oa, oc, rfl, _⟩ := hir.shape
      go_wp2
      go_ret
      exact ⟨_, rfl, hir.mono hsz, hc2.trans hcr (by simp [NoB])⟩
end Go.Proofs.Ytpjmamobiancdaa
