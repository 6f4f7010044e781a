/- The reference's table of rows: Get, In, Least; and whether two lists of rows are the same. Conditions: at most 2^32 rows. -/
import Derived.Test.YtpjmamobiancdaaFi
import Derived.Test.YtpjmamobiancdaaIn
import Derived.Test.YtpjmamobiancdaaLs
import Derived.Test.YtpjmamobiancdaaSr
namespace Go.Proofs.Ytpjmamobiancdaa
open Go.RowKit Go.Maps Go.BigFrame
set_option maxHeartbeats 2000000 in
theorem rleast_any (base bR : Nat) (v : Value) (L : List X) (w : World) (hr : RAt w base bR v L) (hl : L.length ≤ 4294967296) :
    Calls Try.prog 28 #[.pointer (some ⟨bR, 0, none⟩)] w fun e w' => e = .returned (.int .i64 (lsOf (L.map (·.1)))) ∧ Chg NoB w w' := by
  obtain ⟨ao, cap, hv, _⟩ := hr.row.shape
  subst hv
  have hlt := hr.hd.lt
  have hst : ∀ (k : Nat) x, L[k]? = some x → lsOf ((L.map (·.1)).take (k + 1)) = lsStep (lsOf ((L.map (·.1)).take k)) x.1 := by
    intro k x hx
    rw [List.take_add_one, List.getElem?_map, hx]
    exact lsOf_snoc _ _
  have hfin : lsOf ((L.map (·.1)).take L.length) = lsOf (L.map (·.1)) := by rw [← List.length_map (f := fun x : X => x.1), List.take_length]
  have HF := Lib.hid hfin
  clear hfin
  generalize lsOf (L.map (·.1)) = R at HF ⊢
  generalize L.map (·.1) = m at *
  go_enter Try.func28, Try.ntmps28
  go_wp2
  go_loopw [3, 4] (fun n i wr => ∃ k : Nat, i = .int .i64 k ∧ n = .int .i64 (lsOf (m.take k)) ∧ k ≤ L.length ∧ Chg NoB w wr) (fun _ i _ => L.length - (intOf i).toNat)
  case atStart => exact ⟨0, rfl, rfl, Nat.zero_le _, Chg.refl _ w⟩
  case round =>
    obtain ⟨k, rfl, rfl, hk, hcw⟩ := hrel
    have hrw := hr.no hcw
    have c0 := hrw.hd.cell 0 rfl
    by_cases hlt' : k < L.length
    · obtain ⟨x, hx⟩ : ∃ x, L[k]? = some x := ⟨L[k], List.getElem?_eq_getElem hlt'⟩
      have hs := hst k x hx
      obtain ⟨g, cap', hv, _, _, _⟩ := xrow_some hr.row hlt'
      cases hv
      have q2 := (xrow_cells hrw.row hx).2.2.1
      have hl1 : ((k : Int) < (L.length : Int)) := by omega
      have hd1 : decide ((k : Int) < (L.length : Int)) = true := by simpa using hl1
      have hi1 : (0 : Int) ≤ (k : Int) := by omega
      generalize lsOf (m.take k) = N at hs ⊢
      unfold lsStep at hs
      clear hst hx hr hrw
      generalize x.1.first = f at *
      by_cases h1 : 0 < f
      · by_cases h2 : N = 0
        · rw [if_pos ⟨h1, .inl h2⟩] at hs
          have HS := Lib.hid hs
          have hz : (N == 0) = true := by simpa using h2
          clear hs h2
          go_wp2
          exact ⟨⟨k + 1, by go_num, by rw [HS.out], by omega, hcw⟩, by simp [intOf]; omega⟩
        · have hz : (N == 0) = false := by simpa using h2
          by_cases h3 : f < N
          · rw [if_pos ⟨h1, .inr h3⟩] at hs
            have HS := Lib.hid hs
            clear hs h2
            go_wp2
            exact ⟨⟨k + 1, by go_num, by rw [HS.out], by omega, hcw⟩, by simp [intOf]; omega⟩
          · rw [if_neg (by omega)] at hs
            have HS := Lib.hid hs
            clear hs h2
            go_wp2
            exact ⟨⟨k + 1, by go_num, by rw [HS.out], by omega, hcw⟩, by simp [intOf]; omega⟩
      · rw [if_neg (by omega)] at hs
        have HS := Lib.hid hs
        clear hs
        go_wp2
        exact ⟨⟨k + 1, by go_num, by rw [HS.out], by omega, hcw⟩, by simp [intOf]; omega⟩
    · obtain rfl : k = L.length := by omega
      have hd1 : decide ((L.length : Int) < (L.length : Int)) = false := by simp
      clear hst
      go_wp2
      go_ret
      exact ⟨ret_i HF.out, hcw⟩
instance : DecidableEq Rw := fun a b => decidable_of_iff (sameB a b = true) (sameB_iff a b)
theorem eq_maps {La Lb : List X} {k : Nat} {x y : X} (h : (La.map (·.1)).take k = (Lb.map (·.1)).take k) (hx : La[k]? = some x) (hy : Lb[k]? = some y) (he : x.1 = y.1) : (La.map (·.1)).take (k + 1) = (Lb.map (·.1)).take (k + 1) :=
  take_succ_eq h (x := x.1) (by rw [List.getElem?_map, hx]; rfl) (by rw [List.getElem?_map, hy, he]; rfl)
set_option maxHeartbeats 2000000 in
theorem rsame_any (ba bb : Nat) (va vb : Value) (La Lb : List X) (w : World) (ha : XRow w ba va La) (hb : XRow w bb vb Lb) (oa : ∀ x ∈ La, RHas w 0 x) (ob : ∀ x ∈ Lb, RHas w 0 x)
    (ma : ∀ x ∈ La, x.1.ms.length ≤ 1099511627776 ∧ x.1.ls.length ≤ 1099511627776) (mb : ∀ x ∈ Lb, x.1.ms.length ≤ 1099511627776 ∧ x.1.ls.length ≤ 1099511627776) (hla : La.length ≤ 1099511627776) :
    Calls Try.prog 14 #[va, vb] w fun e w' => e = .returned (.bool (decide (La.map (·.1) = Lb.map (·.1)))) ∧ Chg NoB w w' := by
  obtain ⟨aa, ca, rfl, _⟩ := ha.shape
  obtain ⟨ab, cb, rfl, _⟩ := hb.shape
  have hno : ∀ h : La.map (·.1) ≠ Lb.map (·.1), Ending.returned (.bool false) = .returned (.bool (decide (La.map (·.1) = Lb.map (·.1)))) := fun h => by rw [decide_eq_false h]
  have hye : ∀ h : La.map (·.1) = Lb.map (·.1), Ending.returned (.bool true) = .returned (.bool (decide (La.map (·.1) = Lb.map (·.1)))) := fun h => by rw [decide_eq_true h]
  generalize decide (La.map (·.1) = Lb.map (·.1)) = R at hno hye ⊢
  by_cases hl : La.length = Lb.length
  · have hd0 : ((La.length : Int) == (Lb.length : Int)) = true := by rw [hl]; simp
    go_enter Try.func14, Try.ntmps14
    go_wp2
    go_loopw [5] (fun i wr => ∃ k : Nat, i = .int .i64 k ∧ k ≤ La.length ∧ Chg NoB w wr ∧ (La.map (·.1)).take k = (Lb.map (·.1)).take k) (fun i _ => La.length - (intOf i).toNat)
    case atStart => exact ⟨0, rfl, Nat.zero_le _, Chg.refl _ w, rfl⟩
    case round =>
      obtain ⟨k, rfl, hk, hcw, hR⟩ := hrel
      by_cases hlt' : k < La.length
      · obtain ⟨x, hx⟩ : ∃ x, La[k]? = some x := ⟨La[k], List.getElem?_eq_getElem hlt'⟩
        obtain ⟨y, hy⟩ : ∃ y, Lb[k]? = some y := ⟨Lb[k], List.getElem?_eq_getElem (by omega)⟩
        have hl1 : ((k : Int) < (La.length : Int)) := by omega
        have hl2 : ((k : Int) < (Lb.length : Int)) := by omega
        have hd1 : decide ((k : Int) < (La.length : Int)) = true := by simpa using hl1
        have hi1 : (0 : Int) ≤ (k : Int) := by omega
        obtain ⟨g, cap, hv1, _, _, _⟩ := xrow_some ha hlt'
        cases hv1
        obtain ⟨g', cap', hv2, _, _, _⟩ := xrow_some hb (j := k) (by omega)
        cases hv2
        have hx' := List.mem_of_getElem? hx
        have hy' := List.mem_of_getElem? hy
        have hmx := ma x hx'
        have hmy := mb y hy'
        have hRx := (oa x hx').no hcw
        have hRy := (ob y hy').no hcw
        have hsame := fun p : WIn wr => sameRow_any x.1 y.1 x.2.1 x.2.2 y.2.1 y.2.2 p.w (hRx.no p.h).sees.1 (hRx.no p.h).sees.2 (hRy.no p.h).sees.1 (hRy.no p.h).sees.2 hmx.1 hmx.2 hmy.1 hmy.2
        have qx := xrow_cells (ha.chg hcw (by simp [NoB])) hx
        have qy := xrow_cells (hb.chg hcw (by simp [NoB])) hy
        have hsb := sameB_iff x.1 y.1
        have hgo := fun he : x.1 = y.1 => eq_maps hR hx hy he
        have hst := fun he : x.1 ≠ y.1 => hno (fun h => he (by
          have h2 := congrArg (fun m : List Rw => m[k]?) h
          simp only [List.getElem?_map, hx, hy, Option.map_some, Option.some.injEq] at h2
          exact h2))
        obtain ⟨am, cm, al, cl, e1, e2⟩ := hRx.shapes
        obtain ⟨am', cm', al', cl', e1', e2'⟩ := hRy.shapes
        rw [e1, e2] at qx hsame
        rw [e1', e2'] at qy hsame
        clear e1 e2 e1' e2' hRx hRy hmx hmy hx hy hx' hy' hR hno hye oa ob ma mb
        obtain ⟨⟨tx, state, first, last, undo, coord, ms, ls⟩, mv, lv⟩ := x
        obtain ⟨⟨tx', state', first', last', undo', coord', ms', ls'⟩, mv', lv'⟩ := y
        unfold rowV at hsame
        simp only at qx qy hsame hsb hgo hst
        obtain ⟨q0, q1, q2, q3, q4, q5, q6, q7⟩ := qx
        obtain ⟨p0, p1, p2, p3, p4, p5, p6, p7⟩ := qy
        have u0 := fun p : WIn wr => p.cell q0
        have u1 := fun p : WIn wr => p.cell q1
        have u2 := fun p : WIn wr => p.cell q2
        have u3 := fun p : WIn wr => p.cell q3
        have u4 := fun p : WIn wr => p.cell q4
        have u5 := fun p : WIn wr => p.cell q5
        have u6 := fun p : WIn wr => p.cell q6
        have u7 := fun p : WIn wr => p.cell q7
        have t0 := fun p : WIn wr => p.cell p0
        have t1 := fun p : WIn wr => p.cell p1
        have t2 := fun p : WIn wr => p.cell p2
        have t3 := fun p : WIn wr => p.cell p3
        have t4 := fun p : WIn wr => p.cell p4
        have t5 := fun p : WIn wr => p.cell p5
        have t6 := fun p : WIn wr => p.cell p6
        have t7 := fun p : WIn wr => p.cell p7
        clear q0 q1 q2 q3 q4 q5 q6 q7 p0 p1 p2 p3 p4 p5 p6 p7
        generalize sameB (⟨tx, state, first, last, undo, coord, ms, ls⟩ : Rw) ⟨tx', state', first', last', undo', coord', ms', ls'⟩ = B at hsame hsb
        cases B with
        | true =>
          have hg := hgo (hsb.1 rfl)
          clear hgo hst hsb
          go_upto_region 6 with (fail)
          refine wp_region_in _ (Chg.refl _ _) (by kernel_rfl) (by kernel_rfl) ?_
          repeat (go_big_quiet_step (exact Calls.in_of (hsame _)))
          refine wpQuiet_nil ?_
          rintro _ ⟨⟨W2, hW2⟩, rfl⟩
          go_wp2
          exact ⟨⟨k + 1, by go_num, by omega, hcw.trans hW2 (by simp [NoB]), hg⟩, by simp [intOf]; omega⟩
        | false =>
          have hg := hst (fun h => by have := hsb.2 h; cases this)
          clear hgo hst hsb
          go_upto_region 6 with (fail)
          refine wp_region_in _ (Chg.refl _ _) (by kernel_rfl) (by kernel_rfl) ?_
          repeat (go_big_quiet_step (exact Calls.in_of (hsame _)))
          refine wpQuiet_nil ?_
          rintro _ ⟨⟨W2, hW2⟩, rfl⟩
          go_wp2
          go_ret
          exact ⟨hg, hcw.trans hW2 (by simp [NoB])⟩
      · obtain rfl : k = La.length := by omega
        have hd1 : decide ((La.length : Int) < (La.length : Int)) = false := by simp
        have hf := hye (take_all_eq (by rw [List.length_map, List.length_map, hl]) (by rw [List.length_map]; exact hR))
        clear hno hye hR
        go_wp2
        go_ret
        exact ⟨hf, hcw⟩
  · have hf := hno (fun h => hl (by have := congrArg List.length h; rwa [List.length_map, List.length_map] at this))
    have hd0 : ((La.length : Int) == (Lb.length : Int)) = false := by simp; omega
    clear hno hye
    go_enter Try.func14, Try.ntmps14
    go_wp2
    go_ret
    exact ⟨hf, Chg.refl _ w⟩
end Go.Proofs.Ytpjmamobiancdaa
