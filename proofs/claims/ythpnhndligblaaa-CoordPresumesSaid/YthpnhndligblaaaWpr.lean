/- The walk of 'CoordPresumes'. Conditions: none. -/
import Derived.Test.YthpnhndligblaaaPs
import Derived.Test.YthpnhndligblaaaPd
namespace Go.Proofs.Ythpnhndligblaaa
open Go.RowKit Go.Maps Go.BigFrame
theorem Pst.chg {w W : World} {bc bm : Nat} {me : Int} {es : List En} (h : Pst w W bc bm me es) : Chg NoB w W := h.2
theorem kd_at {w W W' : World} {b : Nat} {cs : List Value} {T : TypeId} (h : At W b cs T) (c : Chg (Kd w W) W W') (h2 : (3 : TypeId) ≠ T) (h3 : (61 : TypeId) ≠ T) : At W' b cs T := h.chg c (h.kd h2 h3)
set_option maxRecDepth 100000 in
set_option maxHeartbeats 4000000 in
theorem walk_presumes (me count frm members : Int) (quits : Bool) (w : World) :
    Calls Try.prog 4 #[.int .i64 me, .int .i64 count, .int .i64 frm, .int .i64 members, .bool quits] w fun e w' => e = .returned (.bool true) ∧ Below w.heap.size w w' := by
  have haw := fun W => awake_any W
  by_cases hbad : me < 0 ∨ 7 < me ∨ frm < 0 ∨ 7 < frm ∨ count < 1 ∨ 1073741824 < count ∨ members < 1 ∨ 8 < members
  · go_enter Try.func4, Try.ntmps4
    go_wp2_with (first | (go_at_call 5; refine (haw _).mono ?_; rintro e w2 ⟨rfl, hc2⟩) | fail)
    all_goals first | (exfalso; omega) | (go_ret; exact ⟨rfl, hc2.below (Nat.le_refl _) (fun k h => h.elim)⟩)
  · obtain ⟨n, rfl⟩ : ∃ n : Nat, members = n := ⟨members.toNat, by omega⟩
    have g1 : decide (me < 0) = false := by simp; omega
    have g2 : decide (7 < me) = false := by simp; omega
    have g3 : decide (frm < 0) = false := by simp; omega
    have g4 : decide (7 < frm) = false := by simp; omega
    have g5 : decide (count < 1) = false := by simp; omega
    have g6 : decide (1073741824 < count) = false := by simp; omega
    have g7 : decide ((n : Int) < 1) = false := by simp; omega
    have g8 : decide (8 < (n : Int)) = false := by simp; omega
    have k1 : 0 ≤ me := by omega
    have k2 : me < 8 := by omega
    have k3 : 0 ≤ frm := by omega
    have k4 : frm < 8 := by omega
    have k5 : 1 ≤ count := by omega
    have k6 : count ≤ 1073741824 := by omega
    have k7 : 0 < n := by omega
    have k8 : n ≤ 8 := by omega
    clear hbad
    have t1 : 1 ≤ 8 * count + me := by omega
    have t2 : 8 * count + me ≤ 1099511627776 := by omega
    have tI : I64 (8 * count + me) := by unfold I64; omega
    have hmi : mineB me (8 * count + me) = true := by
      simp only [mineB, Bool.and_eq_true, decide_eq_true_eq, beq_iff_eq]
      omega
    have hnew := Pst.new me w k1 k2
    have hfd := field_deal
    have hbc : w.heap.size < w.heap.size + 2 := by omega
    go_enter Try.func4, Try.ntmps4
    go_upto_region 6 with (first | (go_at_call 6; refine hnew.mono ?_; clear hnew; rintro e w1 ⟨rfl, p1⟩) | fail)
    clear g1 g2 g3 g4 g5 g6 g7 g8
    have hA := At.new w1 [.int .i64 8, .int .i64 frm, .int .i64 me, .int .i64 (8 * count + me), .slice none 0 0] 46
    have cA := (Chg.refl NoB w1).alloc (.cells #[.int .i64 8, .int .i64 frm, .int .i64 me, .int .i64 (8 * count + me), .slice none 0 0] 46)
    have p2 := p1.no cA
    have hlo := p1.2.size
    have bA : w.heap.size ≤ w1.heap.size := hlo
    change At (w1.alloc (.cells #[.int .i64 8, .int .i64 frm, .int .i64 me, .int .i64 (8 * count + me), .slice none 0 0] 46)) _ _ _ at hA
    generalize w1.alloc (.cells #[.int .i64 8, .int .i64 frm, .int .i64 me, .int .i64 (8 * count + me), .slice none 0 0] 46) = w2 at *
    generalize w1.heap.size = bA' at *
    clear p1 cA
    have x0 := hA.cell 0 rfl
    have x1 := hA.cell 1 rfl
    have x2 := hA.cell 2 rfl
    have x3 := hA.cell 3 rfl
    have x4 := hA.cell 4 rfl
    have hlA := hA.lt
    have hi1 := p2.inquire ⟨8, frm, me, (8 * count + me), []⟩ rfl
    rw [inq_none k1 k2 k3 k4 t1 t2 hmi] at hi1
    unfold msgV at hi1
    simp only at hi1
    go_upto_region 7 with (first
      | (go_at_call 15; refine hi1.mono ?_; clear hi1; rintro e w3 ⟨v, rfl, hd, hc3⟩; obtain ⟨a3, j3, a3', n3', j3', rfl, hM3⟩ := hd.shape; simp only [List.length_cons, List.length_nil, Nat.zero_add] at hM3)
      | (refine wpList_deal (deal_new _) rfl _ _ rfl rfl (.slice a3 1 j3) (0) (0) (.slice a3' n3' j3') (0) rfl ⟨_, _, _, rfl⟩ ⟨_, _, _, rfl⟩ ?_; intro w4 hD4 hc4 hs4)
      | fail)
    have c34 := nob_of_deal hc4
    have hA4 := (hA.chg hc3 (by simp [NoB])).chg c34 (by simp [NoB])
    have p4 := (p2.no hc3).no c34
    have hM4 := hM3.no c34
    obtain ⟨gm, rfl, hgm, m0, m2⟩ := hM4.first
    simp only at m0 m2
    have d0 := hD4.cell 0 rfl
    have hlD4 := hD4.lt
    have ho := p4.open (8 * count + me)
    rw [show openD me [] (8 * count + me) = (0, [newE (8 * count + me)]) from by unfold openD; rw [hmi]; rfl] at ho
    clear x0 x1 x2 x3 x4 hlA hA p2 hd hM3 hc3 hs4 hc4 c34
    go_upto_region 9 with (first
      | (go_at_call 7; refine ho.mono ?_; clear ho; rintro e w5 ⟨rfl, p5, c5⟩; have hA5 := kd_at hA4 c5 (by decide) (by decide); have x0 := hA5.cell 0 rfl; have x1 := hA5.cell 1 rfl; have x2 := hA5.cell 2 rfl; have x3 := hA5.cell 3 rfl; have x4 := hA5.cell 4 rfl; have hlA := hA5.lt; have hi2 := p5.inquire ⟨8, frm, me, (8 * count + me), []⟩ rfl; rw [show inquireD me [newE (8 * count + me)] ⟨8, frm, me, (8 * count + me), []⟩ = noDeal from inq_un k1 k2 k3 k4 t1 t2 rfl] at hi2; unfold msgV at hi2; simp only at hi2)
      | (go_at_call 15; refine hi2.mono ?_; clear hi2; rintro e w6 ⟨v, rfl, hd, hc6⟩; obtain ⟨a6, j6, a6', n6', j6', rfl, hM6⟩ := hd.shape; have hA6 := hA5.chg hc6 (by simp [NoB]); have p6 := p5.no hc6; unfold noDeal dealC; simp only [List.length_nil])
      | fail)
    have hc6' := p6.2
    clear d0 hlD4 hD4 m0 m2 hgm hM4 p4 hA4 x0 x1 x2 x3 x4 hlA hA5 p5 c5 hc6 hd hM6
    generalize bA' = bA0 at *
    go_wp2_with fail
    go_loopw [16] (fun i wr => ∃ k : Nat, i = .int .i64 k ∧ k ≤ n ∧ Pst w wr (w.heap.size + 1) w.heap.size me [⟨(8 * count + me), 3, rng k, [], [], false⟩] ∧ At wr bA0 [.int .i64 8, .int .i64 frm, .int .i64 me, .int .i64 (8 * count + me), .slice none 0 0] 46) (fun i _ => n - (intOf i).toNat)
    case atStart => exact ⟨0, rfl, Nat.zero_le _, p6, hA6⟩
    case round =>
      obtain ⟨k, rfl, hk, p7, hA7⟩ := hrel
      by_cases hlt' : k < n
      · have hl1 : ((k : Int) < (n : Int)) := by omega
        have hen := p7.enlist (8 * count + me) k tI
        rw [p_enlist (by omega)] at hen
        go_wp2_with (first | (go_at_call 8; refine hen.mono ?_; clear hen; rintro e w8 ⟨rfl, p8, c8⟩) | fail)
        exact ⟨⟨k + 1, by go_num, by omega, p8, kd_at hA7 c8 (by decide) (by decide)⟩, by simp [intOf]; omega⟩
      · obtain rfl : k = n := by omega
        have hd1 : decide ((k : Int) < (k : Int)) = false := by simp
        clear p6 hA6 hc6'
        have hak := p7.ask (8 * count + me) tI
        rw [p_ask k7] at hak
        go_upto_region 16 with (first
          | (go_at_call 9; refine hak.mono ?_; clear hak; rintro e w8 ⟨v, rfl, hd, p8, c8⟩; obtain ⟨a8, j8, a8', n8', j8', rfl, hM8⟩ := hd.shape; have hA8 := kd_at hA7 c8 (by decide) (by decide); have x0 := hA8.cell 0 rfl; have x1 := hA8.cell 1 rfl; have x2 := hA8.cell 2 rfl; have x3 := hA8.cell 3 rfl; have x4 := hA8.cell 4 rfl; have hlA := hA8.lt; have hi3 := p8.inquire ⟨8, frm, me, (8 * count + me), []⟩ rfl; rw [p_inq k1 k2 k3 k4 t1 t2] at hi3; unfold msgV at hi3; simp only at hi3)
          | (go_at_call 15; refine hi3.mono ?_; clear hi3; rintro e w9 ⟨v, rfl, hd9, hc9⟩; obtain ⟨a9, j9, a9', n9', j9', rfl, hM9⟩ := hd9.shape; have hA9 := hA8.chg hc9 (by simp [NoB]); have p9 := p8.no hc9; unfold noDeal dealC; simp only [List.length_nil])
          | fail)
        clear x0 x1 x2 x3 x4 hlA hA7 hA8 p7 p8 c8 hc9 hd hd9 hM8 hM9 hk hlt'
        go_upto_region 16 with fail
        cases quits with
        | true =>
          have hqu := p9.quit (8 * count + me) tI
          have hql := (p_quit (me := me) (tx := (8 * count + me)) k7).2
          rw [(p_quit k7).1] at hqu
          generalize toM 6 me (8 * count + me) (rng k) (quitN (preE (8 * count + me) k 0)) = MQ at *
          go_upto_region 18 with (first
            | (go_at_call 16; refine hqu.mono ?_; clear hqu; rintro e w10 ⟨v, rfl, hd, p10, c10⟩; obtain ⟨a10, j10, a10', n10', j10', rfl, hM10⟩ := hd.shape; simp only at hM10 ⊢; rw [hql] at hM10 ⊢; have hA10 := kd_at hA9 c10 (by decide) (by decide))
            | (refine wpList_deal (deal_new _) rfl _ _ rfl rfl (.slice a10 k j10) (0) (0) (.slice a10' n10' j10') (2) rfl ⟨_, _, _, rfl⟩ ⟨_, _, _, rfl⟩ ?_; intro w11 hD11 hc11 hs11)
            | fail)
          have c101 := nob_of_deal hc11
          have hA11 := hA10.chg c101 (by simp [NoB])
          have p11 := p10.no c101
          have hi4 := p11.inquire ⟨8, frm, me, (8 * count + me), []⟩ rfl
          rw [inq_none k1 k2 k3 k4 t1 t2 hmi] at hi4
          unfold msgV at hi4
          simp only at hi4
          have x0 := hA11.cell 0 rfl
          have x1 := hA11.cell 1 rfl
          have x2 := hA11.cell 2 rfl
          have x3 := hA11.cell 3 rfl
          have x4 := hA11.cell 4 rfl
          have hlA := hA11.lt
          clear hd hM10 hql hA9 hA10 p9 p10 c10 hs11 hc11 c101
          go_upto_region 19 with (first
            | (go_at_call 15; refine hi4.mono ?_; clear hi4; rintro e w12 ⟨v, rfl, hd, hc12⟩; obtain ⟨a12, j12, a12', n12', j12', rfl, hM12⟩ := hd.shape; simp only [List.length_cons, List.length_nil, Nat.zero_add] at hM12)
            | (refine wpList_deal (deal_new _) rfl _ _ rfl rfl (.slice a12 1 j12) (0) (0) (.slice a12' n12' j12') (0) rfl ⟨_, _, _, rfl⟩ ⟨_, _, _, rfl⟩ ?_; intro w13 hD13 hc13 hs13)
            | fail)
          have c123 := nob_of_deal hc13
          have hM13 := hM12.no c123
          obtain ⟨gm, rfl, hgm, m0, m2⟩ := hM13.first
          simp only at m0 m2
          have hDd := (hD11.chg hc12 (by simp [NoB])).chg c123 (by simp [NoB])
          have q0 := hDd.cell 0 rfl
          have q17 := hDd.cell 17 rfl
          have r0 := hD13.cell 0 rfl
          have l0 := hDd.lt
          have l1 := hD13.lt
          have hcf := ((p11.2.trans hc12 (by simp [NoB])).trans c123 (by simp [NoB]))
          clear x0 x1 x2 x3 x4 hlA hA11 p11 hd hM12 hM13 hD11 hD13 hDd hc12 hc13 hs13 c123
          go_wp2_with (first | (go_at_call 5; refine (haw _).mono ?_; rintro e w20 ⟨rfl, hc20⟩) | fail)
          go_ret
          exact ⟨rfl, (hcf.trans hc20 (by simp [NoB])).below (Nat.le_refl _) (fun k h => h.elim)⟩
        | false =>
          go_wp2_with fail
          go_loopw [20] (fun i wr => ∃ j : Nat, i = .int .i64 j ∧ j ≤ k ∧ Pst w wr (w.heap.size + 1) w.heap.size me [preE (8 * count + me) k j] ∧ At wr bA0 [.int .i64 8, .int .i64 frm, .int .i64 me, .int .i64 (8 * count + me), .slice none 0 0] 46) (fun i _ => k - (intOf i).toNat)
          case atStart => exact ⟨0, rfl, Nat.zero_le _, p9, hA9⟩
          case round =>
            obtain ⟨j, rfl, hj, p10, hA10⟩ := hrel
            clear p9 hA9
            by_cases hltj : j < k
            · have hl1 : ((j : Int) < (k : Int)) := by omega
              have hvo := p10.vote ⟨2, j, me, (8 * count + me), []⟩ rfl
              have hpv := p_vote (me := me) (tx := (8 * count + me)) hltj k8 k1 k2 t1 t2
              generalize (voteD me [preE (8 * count + me) k j] ⟨2, j, me, (8 * count + me), []⟩).1 = dv at hvo
              rw [hpv] at hvo
              clear hpv
              unfold msgV at hvo
              simp only at hvo
              go_wp2_with (first | (go_at_call 10; refine hvo.mono ?_; clear hvo; rintro e w11 ⟨v, rfl, hd, p11, c11⟩) | fail)
              exact ⟨⟨j + 1, by go_num, by omega, p11, kd_at hA10 c11 (by decide) (by decide)⟩, by simp [intOf]; omega⟩
            · obtain rfl : j = k := by omega
              have hd1 : decide ((j : Int) < (j : Int)) = false := by simp
              have x0 := hA10.cell 0 rfl
              have x1 := hA10.cell 1 rfl
              have x2 := hA10.cell 2 rfl
              have x3 := hA10.cell 3 rfl
              have x4 := hA10.cell 4 rfl
              have hlA := hA10.lt
              have hi5 := p10.inquire ⟨8, frm, me, (8 * count + me), []⟩ rfl
              rw [p_inq k1 k2 k3 k4 t1 t2] at hi5
              unfold msgV at hi5
              simp only at hi5
              go_upto_region 26 with (first
                | (go_at_call 15; refine hi5.mono ?_; clear hi5; rintro e w11 ⟨v, rfl, hd, hc11⟩; obtain ⟨a11, j11, a11', n11', j11', rfl, hM11⟩ := hd.shape; have p11 := p10.no hc11; have hA11 := hA10.chg hc11 (by simp [NoB]); have hph := p11.phase (8 * count + me) tI; rw [p_phase] at hph; unfold noDeal dealC; simp only [List.length_nil])
                | (go_at_call 17; refine hph.mono ?_; clear hph; rintro e w12 ⟨rfl, hc12⟩; have p12 := p11.no hc12; have hA12 := hA11.chg hc12 (by simp [NoB]); have hsu := p12.sure (8 * count + me) tI; rw [p_sure] at hsu)
                | fail)
              go_upto_region 27 with (first
                | (go_at_call 11; refine hsu.mono ?_; clear hsu; rintro e w13 ⟨v, rfl, hd13, p13, c13⟩; have hA13 := kd_at hA12 c13 (by decide) (by decide))
                | fail)
              clear x0 x1 x2 x3 x4 hlA hA10 hA11 hA12 p10 p11 p12 hd hd13 hM11 hc11 hc12 c13
              have x0 := hA13.cell 0 rfl
              have x1 := hA13.cell 1 rfl
              have x2 := hA13.cell 2 rfl
              have x3 := hA13.cell 3 rfl
              have x4 := hA13.cell 4 rfl
              have hlA := hA13.lt
              have hi6 := p13.inquire ⟨8, frm, me, (8 * count + me), []⟩ rfl
              rw [show inquireD me [(⟨(8 * count + me), 5, rng j, rng j, rng j, true⟩ : En)] ⟨8, frm, me, (8 * count + me), []⟩ = ⟨[⟨5, me, frm, (8 * count + me), []⟩], 0, 0, [], 0⟩ from inq_su (e := ⟨(8 * count + me), 5, rng j, rng j, rng j, true⟩) k1 k2 k3 k4 t1 t2 rfl] at hi6
              unfold msgV at hi6
              simp only at hi6
              go_upto_region 28 with (first
                | (go_at_call 15; refine hi6.mono ?_; clear hi6; rintro e w14 ⟨v, rfl, hd, hc14⟩; obtain ⟨a14, j14, a14', n14', j14', rfl, hM14⟩ := hd.shape; simp only [List.length_cons, List.length_nil, Nat.zero_add] at hM14)
                | (refine wpList_deal (deal_new _) rfl _ _ rfl rfl (.slice a14 1 j14) (0) (0) (.slice a14' n14' j14') (0) rfl ⟨_, _, _, rfl⟩ ⟨_, _, _, rfl⟩ ?_; intro w15 hD15 hc15 hs15)
                | fail)
              have c145 := nob_of_deal hc15
              have hM15 := hM14.no c145
              obtain ⟨gm, rfl, hgm, m0, m2⟩ := hM15.first
              simp only at m0 m2
              have r0 := hD15.cell 0 rfl
              have l1 := hD15.lt
              have hcf := ((p13.2.trans hc14 (by simp [NoB])).trans c145 (by simp [NoB]))
              clear x0 x1 x2 x3 x4 hlA hA13 p13 hd hM14 hM15 hD15 hc14 hc15 hs15 c145
              go_wp2_with (first | (go_at_call 5; refine (haw _).mono ?_; rintro e w20 ⟨rfl, hc20⟩) | fail)
              go_ret
              exact ⟨rfl, (hcf.trans hc20 (by simp [NoB])).below (Nat.le_refl _) (fun k h => h.elim)⟩
end Go.Proofs.Ythpnhndligblaaa
