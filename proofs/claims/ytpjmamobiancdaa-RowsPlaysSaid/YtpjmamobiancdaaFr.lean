/- The reference's test of one row. Conditions: at most 2^40 members and locks. -/
import Derived.Test.YtpjmamobiancdaaRm
import Derived.Test.YtpjmamobiancdaaRk
import Derived.Test.YtpjmamobiancdaaRb
namespace Go.Proofs.Ytpjmamobiancdaa
open Go.RowKit Go.Maps Go.BigFrame
theorem RF_short (l : List Int) (q : Int) (h : RF nodeB lowerB (some q) l = true) : l = [] ∨ (l.length : Int) ≤ 7 - q := by
  induction l generalizing q with
  | nil => exact .inl rfl
  | cons x l ih =>
    simp only [RF, Bool.and_eq_true] at h
    obtain ⟨⟨h1, h2⟩, h3⟩ := h
    simp only [nodeB, lowerB, Bool.and_eq_true, decide_eq_true_eq] at h1 h2
    right
    rcases ih x h3 with rfl | h4
    · simp; omega
    · simp; omega
theorem membersB_eq (l : List Int) : membersB l = RF nodeB lowerB none l := by
  unfold membersB
  cases h : RF nodeB lowerB none l with
  | false => simp
  | true =>
    simp only [Bool.and_true, decide_eq_true_eq]
    cases l with
    | nil => simp
    | cons x l =>
      simp only [RF, Bool.and_true, Bool.and_eq_true] at h
      obtain ⟨h1, h3⟩ := h
      simp only [nodeB, Bool.and_eq_true, decide_eq_true_eq] at h1
      rcases RF_short l x h3 with rfl | h4
      · simp
      · simp; omega
theorem rseq_any (n least : Int) (w : World) : Calls Try.prog 45 #[.int .i64 n, .int .i64 least] w fun e w' => e = .returned (.bool (seqB n least)) ∧ w' = w := by
  unfold seqB
  go_enter Try.func45, Try.ntmps45
  go_wp2
  all_goals (go_ret; refine ⟨ret_b ?_, rfl⟩; first | rfl | (rw [Bool.eq_iff_iff]; simp; done) | (rw [Bool.eq_iff_iff]; simp; omega))
theorem rowB_eq (r : Rw) : rowB r = (seqB r.tx 1 && !decide (r.state < 1) && !decide (4 < r.state) && seqB r.first 0 && seqB r.last 0 && seqB r.undo 0 && !decide (r.coord < 0) && !decide (7 < r.coord) && RF nodeB lowerB none r.ms && locksB r.ls) := by
  have h1 : decide (1 ≤ r.state) = !decide (r.state < 1) := by rw [Bool.eq_iff_iff]; simp
  have h2 : decide (r.state ≤ 4) = !decide (4 < r.state) := by rw [Bool.eq_iff_iff]; simp
  have h3 : nodeB r.coord = (!decide (r.coord < 0) && !decide (7 < r.coord)) := by unfold nodeB; rw [Bool.eq_iff_iff]; simp; omega
  unfold rowB
  rw [h1, h2, h3, membersB_eq]
  simp only [Bool.and_assoc]
set_option maxRecDepth 100000 in
set_option maxHeartbeats 8000000 in
theorem rrows_any (b : Nat) (r : Rw) (mv lv : Value) (w : World) (hat : At w b (cellsR (r, mv, lv)) 32) (hm0 : Sees w cellsI mv r.ms) (hl0 : Sees w cellsL lv r.ls) (hml : r.ms.length ≤ 1099511627776) (hll : r.ls.length ≤ 1099511627776) :
    Calls Try.prog 63 #[.slice (some ⟨b, 0, none⟩) 1 1] w fun e w' => e = .returned (.bool (rowB r)) ∧ Chg NoB w w' := by
  rw [rowB_eq]
  obtain ⟨am, cm, rfl⟩ := hm0.shape
  obtain ⟨al, cl, rfl⟩ := hl0.shape
  have hs1 := fun W => rseq_any r.tx 1 W
  have hs4 := fun W => rseq_any r.first 0 W
  have hs5 := fun W => rseq_any r.last 0 W
  have hs6 := fun W => rseq_any r.undo 0 W
  have hm' := fun W (hW : Chg NoB w W) => rmembers_any _ r.ms W (hm0.no hW) hml
  have hlk' := fun W (hW : Chg NoB w W) => rlocks_any _ r.ls W (hl0.no hW) hll
  clear hm0 hl0 hml hll
  obtain ⟨tx, state, first, last, undo, coord, ms, ls⟩ := r
  simp only [cellsR] at *
  generalize seqB tx 1 = b1 at hs1 ⊢
  generalize hb2 : decide (state < 1) = b2
  generalize hb3 : decide (4 < state) = b3
  generalize seqB first 0 = b4 at hs4 ⊢
  generalize seqB last 0 = b5 at hs5 ⊢
  generalize seqB undo 0 = b6 at hs6 ⊢
  generalize hb7 : decide (coord < 0) = b7
  generalize hb8 : decide (7 < coord) = b8
  generalize RF nodeB lowerB none ms = b9 at hm' ⊢
  generalize locksB ls = b10 at hlk' ⊢
  go_enter Try.func63, Try.ntmps63
  go_wp2
  go_loopw [3] (fun i wr => ∃ k : Nat, i = .int .i64 k ∧ k ≤ 1 ∧ Chg NoB w wr ∧ (k = 1 → (b1 && !b2 && !b3 && b4 && b5 && b6 && !b7 && !b8 && b9 && b10) = true)) (fun i _ => 1 - (intOf i).toNat)
  case atStart => exact ⟨0, rfl, Nat.zero_le _, Chg.refl _ w, fun h => by cases h⟩
  case round =>
    obtain ⟨k, rfl, hk, hcw, hR⟩ := hrel
    by_cases hlt' : k = 0
    · subst hlt'
      clear hR hk
      have hw := hat.chg hcw (by simp [NoB])
      have q0 := hw.cell 0 rfl
      have q1 := hw.cell 1 rfl
      have q2 := hw.cell 2 rfl
      have q3 := hw.cell 3 rfl
      have q4 := hw.cell 4 rfl
      have q5 := hw.cell 5 rfl
      have q6 := hw.cell 6 rfl
      have q7 := hw.cell 7 rfl
      have hbox := At.new wr [.int .i64 tx, .int .i64 state, .int .i64 first, .int .i64 last, .int .i64 undo, .int .i64 coord, .slice am ms.length cm, .slice al ls.length cl] 32
      have hcb := hcw.alloc (.cells #[.int .i64 tx, .int .i64 state, .int .i64 first, .int .i64 last, .int .i64 undo, .int .i64 coord, .slice am ms.length cm, .slice al ls.length cl] 32)
      have x0 := fun p : WIn (wr.alloc (.cells #[.int .i64 tx, .int .i64 state, .int .i64 first, .int .i64 last, .int .i64 undo, .int .i64 coord, .slice am ms.length cm, .slice al ls.length cl] 32)) => p.cell (hbox.cell 0 rfl)
      have x1 := fun p : WIn (wr.alloc (.cells #[.int .i64 tx, .int .i64 state, .int .i64 first, .int .i64 last, .int .i64 undo, .int .i64 coord, .slice am ms.length cm, .slice al ls.length cl] 32)) => p.cell (hbox.cell 1 rfl)
      have x2 := fun p : WIn (wr.alloc (.cells #[.int .i64 tx, .int .i64 state, .int .i64 first, .int .i64 last, .int .i64 undo, .int .i64 coord, .slice am ms.length cm, .slice al ls.length cl] 32)) => p.cell (hbox.cell 2 rfl)
      have x3 := fun p : WIn (wr.alloc (.cells #[.int .i64 tx, .int .i64 state, .int .i64 first, .int .i64 last, .int .i64 undo, .int .i64 coord, .slice am ms.length cm, .slice al ls.length cl] 32)) => p.cell (hbox.cell 3 rfl)
      have x4 := fun p : WIn (wr.alloc (.cells #[.int .i64 tx, .int .i64 state, .int .i64 first, .int .i64 last, .int .i64 undo, .int .i64 coord, .slice am ms.length cm, .slice al ls.length cl] 32)) => p.cell (hbox.cell 4 rfl)
      have x5 := fun p : WIn (wr.alloc (.cells #[.int .i64 tx, .int .i64 state, .int .i64 first, .int .i64 last, .int .i64 undo, .int .i64 coord, .slice am ms.length cm, .slice al ls.length cl] 32)) => p.cell (hbox.cell 5 rfl)
      have x6 := fun p : WIn (wr.alloc (.cells #[.int .i64 tx, .int .i64 state, .int .i64 first, .int .i64 last, .int .i64 undo, .int .i64 coord, .slice am ms.length cm, .slice al ls.length cl] 32)) => p.cell (hbox.cell 6 rfl)
      have x7 := fun p : WIn (wr.alloc (.cells #[.int .i64 tx, .int .i64 state, .int .i64 first, .int .i64 last, .int .i64 undo, .int .i64 coord, .slice am ms.length cm, .slice al ls.length cl] 32)) => p.cell (hbox.cell 7 rfl)
      have hm := fun W (hW : Chg NoB (wr.alloc (.cells #[.int .i64 tx, .int .i64 state, .int .i64 first, .int .i64 last, .int .i64 undo, .int .i64 coord, .slice am ms.length cm, .slice al ls.length cl] 32)) W) => hm' W (hcb.trans hW (by simp [NoB]))
      have hlk := fun W (hW : Chg NoB (wr.alloc (.cells #[.int .i64 tx, .int .i64 state, .int .i64 first, .int .i64 last, .int .i64 undo, .int .i64 coord, .slice am ms.length cm, .slice al ls.length cl] 32)) W) => hlk' W (hcb.trans hW (by simp [NoB]))
      clear hm' hlk' hat hw
      cases b1 with
      | false =>
        go_upto_region 7 with (fail)
        refine wp_region_in _ (Chg.refl _ _) (by kernel_rfl) (by kernel_rfl) ?_
        repeat (go_big_quiet_step (first | (with_reducible exact Calls.in_same (hs1 _)) | (with_reducible exact Calls.in_same (hs4 _)) | (with_reducible exact Calls.in_same (hs5 _)) | (with_reducible exact Calls.in_same (hs6 _))))
        refine wpQuiet_nil ?_
        rintro _ ⟨⟨W2, hW2⟩, rfl⟩
        go_wp2
        go_ret
        exact ⟨rfl, hcb.trans hW2 (by simp [NoB])⟩
      | true =>
        cases b2 with
        | true =>
          go_upto_region 7 with (fail)
          refine wp_region_in _ (Chg.refl _ _) (by kernel_rfl) (by kernel_rfl) ?_
          repeat (go_big_quiet_step (first | (with_reducible exact Calls.in_same (hs1 _)) | (with_reducible exact Calls.in_same (hs4 _)) | (with_reducible exact Calls.in_same (hs5 _)) | (with_reducible exact Calls.in_same (hs6 _))))
          refine wpQuiet_nil ?_
          rintro _ ⟨⟨W2, hW2⟩, rfl⟩
          go_wp2
          go_ret
          exact ⟨rfl, hcb.trans hW2 (by simp [NoB])⟩
        | false =>
          cases b3 with
          | true =>
            go_upto_region 7 with (fail)
            refine wp_region_in _ (Chg.refl _ _) (by kernel_rfl) (by kernel_rfl) ?_
            repeat (go_big_quiet_step (first | (with_reducible exact Calls.in_same (hs1 _)) | (with_reducible exact Calls.in_same (hs4 _)) | (with_reducible exact Calls.in_same (hs5 _)) | (with_reducible exact Calls.in_same (hs6 _))))
            refine wpQuiet_nil ?_
            rintro _ ⟨⟨W2, hW2⟩, rfl⟩
            go_wp2
            go_ret
            exact ⟨rfl, hcb.trans hW2 (by simp [NoB])⟩
          | false =>
            cases b4 with
            | false =>
              go_upto_region 7 with (fail)
              refine wp_region_in _ (Chg.refl _ _) (by kernel_rfl) (by kernel_rfl) ?_
              repeat (go_big_quiet_step (first | (with_reducible exact Calls.in_same (hs1 _)) | (with_reducible exact Calls.in_same (hs4 _)) | (with_reducible exact Calls.in_same (hs5 _)) | (with_reducible exact Calls.in_same (hs6 _))))
              refine wpQuiet_nil ?_
              rintro _ ⟨⟨W2, hW2⟩, rfl⟩
              go_wp2
              go_ret
              exact ⟨rfl, hcb.trans hW2 (by simp [NoB])⟩
            | true =>
              cases b5 with
              | false =>
                go_upto_region 7 with (fail)
                refine wp_region_in _ (Chg.refl _ _) (by kernel_rfl) (by kernel_rfl) ?_
                repeat (go_big_quiet_step (first | (with_reducible exact Calls.in_same (hs1 _)) | (with_reducible exact Calls.in_same (hs4 _)) | (with_reducible exact Calls.in_same (hs5 _)) | (with_reducible exact Calls.in_same (hs6 _))))
                refine wpQuiet_nil ?_
                rintro _ ⟨⟨W2, hW2⟩, rfl⟩
                go_wp2
                go_ret
                exact ⟨rfl, hcb.trans hW2 (by simp [NoB])⟩
              | true =>
                cases b6 with
                | false =>
                  go_upto_region 7 with (fail)
                  refine wp_region_in _ (Chg.refl _ _) (by kernel_rfl) (by kernel_rfl) ?_
                  repeat (go_big_quiet_step (first | (with_reducible exact Calls.in_same (hs1 _)) | (with_reducible exact Calls.in_same (hs4 _)) | (with_reducible exact Calls.in_same (hs5 _)) | (with_reducible exact Calls.in_same (hs6 _))))
                  refine wpQuiet_nil ?_
                  rintro _ ⟨⟨W2, hW2⟩, rfl⟩
                  go_wp2
                  go_ret
                  exact ⟨rfl, hcb.trans hW2 (by simp [NoB])⟩
                | true =>
                  go_upto_region 7 with (fail)
                  refine wp_region_in _ (Chg.refl _ _) (by kernel_rfl) (by kernel_rfl) ?_
                  repeat (go_big_quiet_step (first | (with_reducible exact Calls.in_same (hs1 _)) | (with_reducible exact Calls.in_same (hs4 _)) | (with_reducible exact Calls.in_same (hs5 _)) | (with_reducible exact Calls.in_same (hs6 _))))
                  refine wpQuiet_nil ?_
                  rintro _ ⟨⟨W2, hW2⟩, rfl⟩
                  have z5 := (hbox.chg hW2 (by simp [NoB])).cell 5 rfl
                  have z6 := (hbox.chg hW2 (by simp [NoB])).cell 6 rfl
                  clear hs1 hs4 hs5 hs6 hb2 hb3 x0 x1 x2 x3 x4 x5 x6 x7 q0 q1 q2 q3 q4 q5 q6 q7
                  cases b7 with
                  | true =>
                    go_wp2_with (first | (go_at_call 48; refine (hm _ hW2).mono ?_; rintro e w3 ⟨rfl, hc3⟩; have z7 := (hbox.chg (hW2.trans hc3 (by simp [NoB])) (by simp [NoB])).cell 7 rfl) | (go_at_call 49; refine (hlk _ (hW2.trans hc3 (by simp [NoB]))).mono ?_; rintro e w4 ⟨rfl, hc4⟩))
                    go_ret
                    first | exact ⟨rfl, hcb.trans hW2 (by simp [NoB])⟩ | exact ⟨rfl, (hcb.trans hW2 (by simp [NoB])).trans hc3 (by simp [NoB])⟩ | exact ⟨rfl, ((hcb.trans hW2 (by simp [NoB])).trans hc3 (by simp [NoB])).trans hc4 (by simp [NoB])⟩
                  | false =>
                    cases b8 with
                    | true =>
                      go_wp2_with (first | (go_at_call 48; refine (hm _ hW2).mono ?_; rintro e w3 ⟨rfl, hc3⟩; have z7 := (hbox.chg (hW2.trans hc3 (by simp [NoB])) (by simp [NoB])).cell 7 rfl) | (go_at_call 49; refine (hlk _ (hW2.trans hc3 (by simp [NoB]))).mono ?_; rintro e w4 ⟨rfl, hc4⟩))
                      go_ret
                      first | exact ⟨rfl, hcb.trans hW2 (by simp [NoB])⟩ | exact ⟨rfl, (hcb.trans hW2 (by simp [NoB])).trans hc3 (by simp [NoB])⟩ | exact ⟨rfl, ((hcb.trans hW2 (by simp [NoB])).trans hc3 (by simp [NoB])).trans hc4 (by simp [NoB])⟩
                    | false =>
                      cases b9 with
                      | false =>
                        go_wp2_with (first | (go_at_call 48; refine (hm _ hW2).mono ?_; rintro e w3 ⟨rfl, hc3⟩; have z7 := (hbox.chg (hW2.trans hc3 (by simp [NoB])) (by simp [NoB])).cell 7 rfl) | (go_at_call 49; refine (hlk _ (hW2.trans hc3 (by simp [NoB]))).mono ?_; rintro e w4 ⟨rfl, hc4⟩))
                        go_ret
                        first | exact ⟨rfl, hcb.trans hW2 (by simp [NoB])⟩ | exact ⟨rfl, (hcb.trans hW2 (by simp [NoB])).trans hc3 (by simp [NoB])⟩ | exact ⟨rfl, ((hcb.trans hW2 (by simp [NoB])).trans hc3 (by simp [NoB])).trans hc4 (by simp [NoB])⟩
                      | true =>
                        cases b10 with
                        | false =>
                          go_wp2_with (first | (go_at_call 48; refine (hm _ hW2).mono ?_; rintro e w3 ⟨rfl, hc3⟩; have z7 := (hbox.chg (hW2.trans hc3 (by simp [NoB])) (by simp [NoB])).cell 7 rfl) | (go_at_call 49; refine (hlk _ (hW2.trans hc3 (by simp [NoB]))).mono ?_; rintro e w4 ⟨rfl, hc4⟩))
                          go_ret
                          first | exact ⟨rfl, hcb.trans hW2 (by simp [NoB])⟩ | exact ⟨rfl, (hcb.trans hW2 (by simp [NoB])).trans hc3 (by simp [NoB])⟩ | exact ⟨rfl, ((hcb.trans hW2 (by simp [NoB])).trans hc3 (by simp [NoB])).trans hc4 (by simp [NoB])⟩
                        | true =>
                          go_wp2_with (first | (go_at_call 48; refine (hm _ hW2).mono ?_; rintro e w3 ⟨rfl, hc3⟩; have z7 := (hbox.chg (hW2.trans hc3 (by simp [NoB])) (by simp [NoB])).cell 7 rfl) | (go_at_call 49; refine (hlk _ (hW2.trans hc3 (by simp [NoB]))).mono ?_; rintro e w4 ⟨rfl, hc4⟩))
                          exact ⟨⟨1, by go_num, by omega, ((hcb.trans hW2 (by simp [NoB])).trans hc3 (by simp [NoB])).trans hc4 (by simp [NoB]), fun _ => rfl⟩, by simp [intOf]⟩
    · obtain rfl : k = 1 := by omega
      have HB := Lib.hid (hR rfl)
      clear hm' hlk' hs1 hs4 hs5 hs6 hR
      go_wp2
      go_ret
      exact ⟨ret_b HB.out.symm, hcw⟩
end Go.Proofs.Ytpjmamobiancdaa
