/- The walk of 'RowsAgain'. Conditions: none. -/
import Derived.Test.YtpjmamobiancdaaAgn
import Derived.Test.YtpjmamobiancdaaOpl
import Derived.Test.YtpjmamobiancdaaAw
namespace Go.Proofs.Ytpjmamobiancdaa
open Go.RowKit Go.Maps Go.BigFrame
theorem great_no {L : List X} (h : greatB L = false) : L.length ≤ 100 ∧ ∀ x ∈ L, x.1.ms.length ≤ 20 ∧ x.1.ls.length ≤ 80 := by
  unfold greatB at h
  simp only [Bool.or_eq_false_iff, decide_eq_false_iff_not] at h
  refine ⟨by omega, fun x hx => greatR_no ?_⟩
  exact Bool.eq_false_iff.2 (fun hg => by
    have := List.any_eq_true.2 ⟨x, hx, hg⟩
    rw [h.2] at this
    cases this)
set_option maxRecDepth 100000 in
set_option maxHeartbeats 8000000 in
theorem walk_rowsAgain (v : Value) (L : List X) (w : World) (hv : Sees w cellsR v L) (hx : ∀ x ∈ L, SeesX w x) :
    Calls Try.prog 3 #[v] w fun e w' => e = .returned (.bool true) ∧ Below w.heap.size w w' := by
  have hgr := great_any v L w hv (fun x h => (hx x h).shaped)
  have h9 := fun W => awake_any W
  obtain ⟨ao, cap, rfl⟩ := hv.shape
  cases hG : greatB L with
  | true =>
    rw [hG] at hgr
    clear hG
    go_enter Try.func3, Try.ntmps3
    go_wp2_with (first | (go_at_call 8; refine hgr.mono ?_; clear hgr; rintro e w2 ⟨rfl, hc2⟩) | (go_at_call 9; refine (h9 _).mono ?_; clear h9; rintro e W8 ⟨rfl, hc8⟩))
    go_ret
    exact ⟨rfl, (hc2.trans hc8 (by simp [NoB])).below (Nat.le_refl _) (fun k h => h.elim)⟩
  | false =>
    rw [hG] at hgr
    obtain ⟨hLl, hLx⟩ := great_no hG
    clear hG
    have hnew := fun W => new_any W
    go_enter Try.func3, Try.ntmps3
    go_wp2_with (first
      | (go_at_call 8; refine hgr.mono ?_; clear hgr; rintro e w2 ⟨rfl, hc2⟩)
      | (go_at_call 10; refine (hnew w2).mono ?_; rintro e w3 ⟨rfl, ht3, hc3⟩; have hc23 := hc2.trans hc3 (by simp [NoB]))
      | (go_at_call 10; refine (hnew w3).mono ?_; clear hnew; rintro e w4 ⟨rfl, hs4, hc4⟩)
      | fail)
    have ht4 := ht3.no hc4
    have hc24 := hc23.trans hc4 (by simp [NoB])
    have s2 := hc2.size
    have s3 : w2.heap.size + 2 ≤ w3.heap.size := ht3.hd.lt
    clear ht3 hc3 hc4 hc23
    go_loopw [5] (fun i wr => ∃ (k : Nat) (l : List (Int × X)), i = .int .i64 k ∧ k ≤ L.length ∧ TAt wr (w2.heap.size + 1) w2.heap.size l ∧ l.length ≤ 64 ∧ TAt wr (w3.heap.size + 1) w3.heap.size [] ∧ Chg NoB w wr) (fun i _ => L.length - (intOf i).toNat)
    case atStart => exact ⟨0, [], rfl, Nat.zero_le _, ht4, by simp, hs4, hc24⟩
    case round =>
      obtain ⟨k, l, rfl, hk, ht, hll, hs, hcw⟩ := hrel
      by_cases hlt' : k < L.length
      · obtain ⟨x, hxk⟩ : ∃ x, L[k]? = some x := ⟨L[k], List.getElem?_eq_getElem hlt'⟩
        have hl1 : ((k : Int) < (L.length : Int)) := by omega
        have hd1 : decide ((k : Int) < (L.length : Int)) = true := by simpa using hl1
        have hi1 : (0 : Int) ≤ (k : Int) := by omega
        have hxL := List.mem_of_getElem? hxk
        have hsx := (hx x hxL).no hcw
        have hlx := hLx x hxL
        obtain ⟨ad, c', hvv, hcell⟩ := (hv.no hcw).at cellsR_len hxk
        cases hvv
        have q0 := hcell 0 _ rfl
        have q1 := hcell 1 _ rfl
        have q2 := hcell 2 _ rfl
        have q3 := hcell 3 _ rfl
        have q4 := hcell 4 _ rfl
        have q5 := hcell 5 _ rfl
        have q6 := hcell 6 _ rfl
        have q7 := hcell 7 _ rfl
        rw [Nat.add_zero] at q0
        rw [addr_field _ _ _ (by omega)] at q1 q2 q3 q4 q5 q6 q7
        have hcopy := copy_sl x.1 _ _ wr hsx.1 hsx.2.1 (by omega) (by omega)
        obtain ⟨⟨am, cm, e1⟩, ⟨al, cl, e2⟩⟩ := hsx.shaped
        rw [e1] at q6 hcopy
        rw [e2] at q7 hcopy
        clear hcell hsx hxL hxk
        obtain ⟨⟨tx, state, first, last, undo, coord, ms, ls⟩, mv, lv⟩ := x
        unfold rowV at hcopy
        simp only at q0 q1 q2 q3 q4 q5 q6 q7 hcopy hlx
        have hadd := fun W (hW : TAt W (w2.heap.size + 1) w2.heap.size l) a1 k1 a2 k2 (hR : RHas W 0 ((⟨tx, state, first, last, undo, coord, ms, ls⟩, .slice a1 ms.length k1, .slice a2 ls.length k2) : X)) => add_len _ _ l (⟨tx, state, first, last, undo, coord, ms, ls⟩ : Rw) _ _ W hW hll hR.sees.1 hR.sees.2 (by simp only; omega) (by simp only; omega)
        unfold rowV at hadd
        simp only at hadd
        clear e1 e2 hlx
        generalize hP : ad.add (k * 8) = P at q0 q1 q2 q3 q4 q5 q6 q7
        go_wp2_with (first
          | (go_at_call 12; refine hcopy.mono ?_; clear hcopy; rintro e w5 ⟨a1, k1, a2, k2, rfl, hR5, hc5⟩; have hadd' := hadd _ (ht.no hc5) a1 k1 a2 k2 (hR5.mono (Nat.zero_le _)); clear hadd)
          | (go_at_call 11; refine hadd'.mono ?_; clear hadd'; rintro e w6 ⟨c, l', rfl, ht6, hl6, hc6⟩)
          | fail)
        have hs6 : TAt _ (w3.heap.size + 1) w3.heap.size [] := (hs.no hc5).apart hc6 (by omega) (by omega) (B := w2.heap.size + 1) (by simp) (fun g hg => by omega)
        exact ⟨⟨k + 1, l', by go_num, by omega, ht6, hl6, hs6, (hcw.trans hc5 (by simp [NoB])).trans hc6 (fun j h1 h2 => by omega)⟩, by simp [intOf]; omega⟩
      · obtain rfl : k = L.length := by omega
        have hd1 : decide ((L.length : Int) < (L.length : Int)) = false := by simp
        have hall := all_any _ _ l wr ht (by omega)
        change Calls Try.prog 13 _ wr fun e w' => ∃ v A, e = .returned v ∧ XRow w' wr.heap.size v A ∧ (∀ x ∈ A, RHas w' wr.heap.size x) ∧ A.map (·.1) = sorted l ∧ Chg NoB wr w' at hall
        have hsl := sorted_len ht
        generalize wr = wA at *
        go_wp2_with (first | (go_at_call 13; refine hall.mono ?_; clear hall; rintro e w5 ⟨va, A, rfl, hrow, hxs, hA, hc5⟩; obtain ⟨oa, oc, rfl, _⟩ := hrow.shape; have hAl : A.length = l.length := (by rw [← hsl, ← hA, List.length_map]); have hAb : A.length ≤ 64 := (by omega)) | fail)
        have ht5 := ht.no hc5
        have hs5 := hs.no hc5
        have hcw5 := hcw.trans hc5 (by simp [NoB])
        clear ht hs hcw hc5
        go_loopw [7] (fun i wr => ∃ (m : Nat) (l2 : List (Int × X)), i = .int .i64 ((m : Int) - 1) ∧ m ≤ A.length ∧ TAt wr (w3.heap.size + 1) w3.heap.size l2 ∧ rowsOf l2 = (sorted l).reverse.take (A.length - m) ∧ Chg (· = w3.heap.size) w5 wr) (fun i _ => (intOf i + 1).toNat)
        case atStart => exact ⟨A.length, [], (by rw [hAl]), Nat.le_refl _, hs5, by simp [rowsOf], Chg.refl _ _⟩
        case round =>
          obtain ⟨m, l2, rfl, hm, hs, hrows, hcr⟩ := hrel
          have htr := ht5.other hs5.mp (by omega) hcr
          by_cases hm0 : m = 0
          · subst hm0
            have hd2 : decide ((0 : Int) ≤ ((0 : Nat) : Int) - 1) = false := by simp
            have hlen2 : l2.length = A.length := by
              have := congrArg List.length hrows
              simp only [rowsOf, List.length_map, List.length_take, List.length_reverse, hsl] at this
              omega
            rw [Nat.sub_zero, hAl, ← hsl, ← List.length_reverse, List.take_length] at hrows
            have hse := sorted_eq htr hs hrows
            have hallT := all_any _ _ l wr htr (by omega)
            change Calls Try.prog 13 _ wr fun e w' => ∃ v A, e = .returned v ∧ XRow w' wr.heap.size v A ∧ (∀ x ∈ A, RHas w' wr.heap.size x) ∧ A.map (·.1) = sorted l ∧ Chg NoB wr w' at hallT
            have hallS := fun W (hW : Chg NoB wr W) => all_any _ _ l2 W (hs.no hW) (by omega)
            change ∀ W, Chg NoB wr W → Calls Try.prog 13 _ W fun e w' => ∃ v A, e = .returned v ∧ XRow w' W.heap.size v A ∧ (∀ x ∈ A, RHas w' W.heap.size x) ∧ A.map (·.1) = sorted l2 ∧ Chg NoB W w' at hallS
            rw [hse] at hallS
            have hlT := fun W (hW : Chg NoB wr W) => least_any _ _ l W (htr.no hW)
            have hlS := fun W (hW : Chg NoB wr W) => least_any _ _ l2 W (hs.no hW)
            rw [(rel_of htr).least] at hlT
            rw [(rel_of hs).least, hse] at hlS
            have hlens := fun (B : List X) (hB : B.map (·.1) = sorted l) => sorted_lens htr hB
            have hcw : Chg NoB w wr := hcw5.trans hcr (fun j h1 h2 => by omega)
            clear hse hrows hlen2 hA hxs hrow hcr hs5 ht5 hcw5 hs htr
            generalize lsOf (sorted l) = N at hlT hlS
            generalize sorted l = M at *
            go_wp2_with (first
              | (go_at_call 13; with_reducible refine hallT.mono ?_; clear hallT; rintro e w6 ⟨v6, A6, rfl, hr6, hx6, hA6, hc6⟩; obtain ⟨o6, c6, rfl, _⟩ := hr6.shape; have hallS' := hallS _ hc6; clear hallS)
              | (go_at_call 13; with_reducible refine hallS'.mono ?_; clear hallS'; rintro e w7 ⟨v7, A7, rfl, hr7, hx7, hA7, hc7⟩; obtain ⟨o7, c7, rfl, _⟩ := hr7.shape; have hsame := rsame_any _ _ _ _ A6 A7 w7 (hr6.chg hc7 (by simp [NoB])) hr7 (fun x hx => ((hx6 x hx).no hc7).mono (Nat.zero_le _)) (fun x hx => (hx7 x hx).mono (Nat.zero_le _)) (hlens A6 hA6) (hlens A7 hA7) (by have h1 := congrArg List.length hA6; rw [List.length_map, hsl] at h1; omega); rw [show decide (A6.map (·.1) = A7.map (·.1)) = true from decide_eq_true (by rw [hA6, hA7])] at hsame)
              | (go_at_call 14; refine hsame.mono ?_; clear hsame; rintro e w8 ⟨rfl, hc8⟩; have hc68 := (hc6.trans hc7 (by simp [NoB])).trans hc8 (by simp [NoB]); have hlT' := hlT _ hc68; clear hlT)
              | (go_at_call 15; with_reducible refine hlT'.mono ?_; clear hlT'; rintro e w9 ⟨rfl, hc9⟩; have hlS' := hlS _ (hc68.trans hc9 (by simp [NoB])); clear hlS)
              | (go_at_call 15; with_reducible refine hlS'.mono ?_; clear hlS'; rintro e w10 ⟨rfl, hc10⟩)
              | (go_at_call 9; refine (h9 _).mono ?_; clear h9; rintro e w11 ⟨rfl, hc11⟩)
              | fail)
            go_ret
            exact ⟨rfl, ((((hcw.trans hc68 (by simp [NoB])).trans hc9 (by simp [NoB])).trans hc10 (by simp [NoB])).trans hc11 (by simp [NoB])).below (Nat.le_refl _) (fun k h => h.elim)⟩
          · obtain ⟨j, rfl⟩ : ∃ j, m = j + 1 := ⟨m - 1, by omega⟩
            have hj : (((j + 1 : Nat) : Int) - 1) = (j : Int) := by omega
            rw [hj]
            clear hj
            obtain ⟨y, hy⟩ : ∃ y, A[j]? = some y := ⟨A[j]'(by omega), List.getElem?_eq_getElem _⟩
            have hMy : (sorted l)[j]? = some y.1 := by rw [← hA, List.getElem?_map, hy]; rfl
            have hNy : (sorted l).reverse[A.length - (j + 1)]? = some y.1 := by
              rw [List.getElem?_reverse (by omega), hsl, ← hAl, ← hMy]
              congr 1
              omega
            have hBy := sorted_may htr y.1 (List.mem_of_getElem? hMy)
            have hnew := rev_new (rel_of htr).up hNy hs hrows
            have htk : (sorted l).reverse.take (A.length - (j + 1)) ++ [y.1] = (sorted l).reverse.take (A.length - j) := by
              rw [show A.length - j = A.length - (j + 1) + 1 by omega, List.take_add_one, hNy]
              rfl
            have hput : ∀ m v, rowsOf (mput l2 y.1.tx (y.1, m, v)) = (sorted l).reverse.take (A.length - j) := fun m v => by rw [rows_put hs (x := ((y.1, m, v) : X)) hnew, hrows]; exact htk
            have hl2 : l2.length < 64 := by
              have := congrArg List.length hrows
              simp only [rowsOf, List.length_map, List.length_take] at this
              omega
            have hyR : RHas wr 0 y := ((hxs y (List.mem_of_getElem? hy)).mono (Nat.zero_le _)).chg_map hs5.mp hcr
            have hadd := add_ok _ _ l2 y.1 _ _ wr hs hyR.sees.1 hyR.sees.2 hBy hnew hl2
            have hrwr : XRow wr wA.heap.size (.slice oa A.length oc) A := hrow.chg hcr (fun g hg e => by subst e; exact hrow.apart_map hs5.mp hg)
            obtain ⟨g, cap', hvv, _, _, hgl⟩ := xrow_some hrwr (j := j) (by omega)
            cases hvv
            obtain ⟨q0, q1, q2, q3, q4, q5, q6, q7⟩ := xrow_cells hrwr hy
            obtain ⟨am, cm, al, cl, e1, e2⟩ := hyR.shapes
            rw [e1] at q6 hadd
            rw [e2] at q7 hadd
            have hi1 : (0 : Int) ≤ (j : Int) := by omega
            have hi2 : (j : Int) < (A.length : Int) := by omega
            have hd2 : decide ((0 : Int) ≤ (j : Int)) = true := by simp
            clear e1 e2 hyR hBy hnew htk hMy hNy hA hy hrows
            obtain ⟨⟨tx, state, first, last, undo, coord, ms, ls⟩, mv, lv⟩ := y
            unfold rowV at hadd
            simp only at q0 q1 q2 q3 q4 q5 q6 q7 hadd hput
            go_wp2_with (go_at_call 11; refine hadd.mono ?_; clear hadd; rintro e w6 ⟨rfl, m1, v1, hs6, hc6⟩)
            exact ⟨⟨j, _, rfl, by omega, hs6, hput m1 v1, hcr.trans hc6 (fun j h1 h2 => h2)⟩, by simp [intOf]⟩
end Go.Proofs.Ytpjmamobiancdaa
