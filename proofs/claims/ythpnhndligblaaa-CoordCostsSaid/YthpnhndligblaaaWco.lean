/- The walk of 'CoordCosts'. Conditions: none. -/
import Derived.Test.YthpnhndligblaaaAl
import Derived.Test.YthpnhndligblaaaKd
namespace Go.Proofs.Ythpnhndligblaaa
open Go.RowKit Go.Maps Go.BigFrame
theorem field_deal1 (a a' : Option Addr) (n c n' c' : Nat) (k tx r : Int) (w : World) : (Instr.field 41 (.agg #[.slice a n c, .int .i64 k, .int .i64 tx, .int .i64 0, .int .i64 0, .string ⟨#[]⟩, .bool false, .string ⟨#[]⟩, .bool false, .string ⟨#[]⟩, .int .i64 0, .slice a' n' c', .slice none 0 0, .slice none 0 0, .slice none 0 0, .slice none 0 0, .slice none 0 0, .int .i64 r]) 1).run Try.prog w = .ok (.agg #[.int .i64 k, .int .i64 tx, .int .i64 0, .int .i64 0, .string ⟨#[]⟩, .bool false, .string ⟨#[]⟩, .bool false, .string ⟨#[]⟩, .int .i64 0, .slice a' n' c', .slice none 0 0, .slice none 0 0, .slice none 0 0, .slice none 0 0, .slice none 0 0]) w := by kernel_rfl
theorem field_deal1' (a a' : Option Addr) (n c n' c' : Nat) (k tx r : Int) (w : World) : (Instr.field 41 (.agg (dealC (.slice a n c) k tx (.slice a' n' c') r).toArray) 1).run Try.prog w = .ok (.agg #[.int .i64 k, .int .i64 tx, .int .i64 0, .int .i64 0, .string ⟨#[]⟩, .bool false, .string ⟨#[]⟩, .bool false, .string ⟨#[]⟩, .int .i64 0, .slice a' n' c', .slice none 0 0, .slice none 0 0, .slice none 0 0, .slice none 0 0, .slice none 0 0]) w := field_deal1 ..
theorem field_rec0 (a' : Option Addr) (n' c' : Nat) (k tx : Int) (w : World) : (Instr.field 39 (.agg #[.int .i64 k, .int .i64 tx, .int .i64 0, .int .i64 0, .string ⟨#[]⟩, .bool false, .string ⟨#[]⟩, .bool false, .string ⟨#[]⟩, .int .i64 0, .slice a' n' c', .slice none 0 0, .slice none 0 0, .slice none 0 0, .slice none 0 0, .slice none 0 0]) 0).run Try.prog w = .ok (.int .i64 k) w := by kernel_rfl
def cellsB (b : Bool) : List Value := [.bool b]
theorem cellsB_len (b : Bool) : (cellsB b).length = 1 := rfl
theorem kd_at' {w W W' : World} {b : Nat} {cs : List Value} {T : TypeId} (h : At W b cs T) (c : Chg (Kd w W) W W') (h2 : (3 : TypeId) ≠ T) (h3 : (61 : TypeId) ≠ T) : At W' b cs T := h.chg c (h.kd h2 h3)
theorem new11 : openD 3 [] 11 = (0, [⟨11, 3, rng 0, [], [], false⟩]) := by rfl
set_option maxRecDepth 100000 in
set_option maxHeartbeats 8000000 in
theorem walk_costs (v : Value) (u : List Bool) (no : Int) (w : World) (hv : Sees w cellsB v u) :
    Calls Try.prog 3 #[v, .int .i64 no] w fun e w' => e = .returned (.bool true) ∧ Below w.heap.size w w' := by
  have haw := fun W => awake_any W
  obtain ⟨ao, cap, rfl⟩ := hv.shape
  by_cases h8 : u.length ≤ 8
  · have hd0 : decide ((8 : Int) < (u.length : Int)) = false := by simp; omega
    have hnew := Pst.new 3 w (by omega) (by omega)
    have hfd := field_deal
    have hfd1 := field_deal1'
    have hfr := field_rec0
    have tI : I64 11 := by unfold I64; omega
    generalize hn : u.length = n at *
    have hub : ∀ k : Nat, k < n → u[k]? = some (upd u k) := fun k hk => by
      unfold upd
      rw [List.getD_eq_getElem?_getD, List.getElem?_eq_getElem (by omega)]
      rfl
    have hN := Lib.hid hn
    clear hn
    go_enter Try.func3, Try.ntmps3
    go_wp2_with (first
      | (go_at_call 6; refine hnew.mono ?_; clear hnew; rintro e w1 ⟨rfl, p1⟩; have ho := p1.open 11; rw [new11] at ho)
      | (go_at_call 7; refine ho.mono ?_; clear ho; rintro e w2 ⟨rfl, p2, c2⟩)
      | fail)
    clear p1 c2
    go_loopw [7, 8] (fun pv i wr => ∃ k : Nat, i = .int .i64 k ∧ k ≤ n ∧ pv = .int .i64 ((ysL u k).length : Nat) ∧ Pst w wr (w.heap.size + 1) w.heap.size 3 [⟨11, 3, rng k, [], [], false⟩]) (fun _ i _ => n - (intOf i).toNat)
    case atStart => exact ⟨0, rfl, Nat.zero_le _, rfl, p2⟩
    case round =>
      obtain ⟨k, rfl, hk, rfl, p3⟩ := hrel
      by_cases hlt' : k < n
      · have hl1 : ((k : Int) < (n : Int)) := by omega
        have hi1 : (0 : Int) ≤ (k : Int) := by omega
        have hen := p3.enlist 11 k tI
        rw [p_enlist (by omega)] at hen
        have hyl := ysL_len u k
        have hys := congrArg List.length (ysL_succ u k)
        rw [List.length_append] at hys
        have hbk := hub k hlt'
        cases hb : upd u k with
        | true =>
          rw [hb] at hbk hys
          have HY := Lib.hid hys
          clear hys
          go_wp2_with (first | (go_at_call 8; refine hen.mono ?_; clear hen; rintro e w4 ⟨rfl, p4, c4⟩; obtain ⟨ad, c', hvv, q0⟩ := (hv.no p4.2).at_one cellsB_len hbk rfl; cases hvv) | fail)
          exact ⟨⟨k + 1, by go_num, by omega, by rw [HY.out]; simp, p4⟩, by simp [intOf]; omega⟩
        | false =>
          rw [hb] at hbk hys
          have HY := Lib.hid hys
          clear hys
          go_wp2_with (first | (go_at_call 8; refine hen.mono ?_; clear hen; rintro e w4 ⟨rfl, p4, c4⟩; obtain ⟨ad, c', hvv, q0⟩ := (hv.no p4.2).at_one cellsB_len hbk rfl; cases hvv) | fail)
          exact ⟨⟨k + 1, by go_num, by omega, by rw [HY.out]; simp, p4⟩, by simp [intOf]; omega⟩
      · obtain rfl : k = n := by omega
        have hd1 : decide ((k : Int) < (k : Int)) = false := by simp
        clear p2 hk hlt'
        have hak := p3.ask 11 tI
        rw [c_ask (u := u)] at hak
        generalize hR0 : (if k = 0 then (1 : Int) else 0) = R0 at hak
        have HR0 := Lib.hid hR0
        clear hR0
        have hml : (toM 1 3 11 (rng k) (rng k)).length = k := by simp [toM, rng_len]
        go_upto_region 15 with (first
          | (go_at_call 9; refine hak.mono ?_; clear hak; rintro e w4 ⟨v, rfl, hd, p4, c4⟩; obtain ⟨a4, j4, a4', n4', j4', rfl, hM4⟩ := hd.shape; simp only at hM4 ⊢; rw [hml] at hM4 ⊢)
          | (refine wpList_deal (deal_new _) rfl _ _ rfl rfl (.slice a4 k j4) (0) (0) (.slice a4' n4' j4') (R0) rfl ⟨_, _, _, rfl⟩ ⟨_, _, _, rfl⟩ ?_; intro w5 hD5 hc5 hs5)
          | fail)
        have p5 := p4.no (nob_of_deal hc5)
        have x0 := fun q : WIn w5 => q.cell (hD5.cell 0 rfl)
        have x17 := fun q : WIn w5 => q.cell (hD5.cell 17 rfl)
        have hlD := hD5.lt
        clear hd hM4 hml p3 p4 c4 hc5 hs5
        refine wp_region_in w5 (Chg.refl _ _) (by kernel_rfl) (by kernel_rfl) ?_
        repeat (go_big_quiet_step (fail))
        refine wpQuiet_nil ?_
        rintro w6 ⟨⟨w6', hc6⟩, hh⟩
        change w6 = w6' at hh
        subst w6'
        have p6 := p5.no hc6
        clear p5 x0 x17 hlD hD5
        go_wp2_with fail
        go_loopw [10, 11, 12, 13] (fun s r res i wr => ∃ j : Nat, i = .int .i64 j ∧ j ≤ k ∧
          (((∀ m : Nat, m < j → (m : Int) ≠ no) ∧ s = .int .i64 (if j < k then (k : Int) else k + (ysL u k).length) ∧ r = .int .i64 (if j < k then 0 else if ysL u k = [] then 0 else 1) ∧ res = .int .i64 (if j < k then 0 else 1) ∧ Pst w wr (w.heap.size + 1) w.heap.size 3 (costE u k j)) ∨
          (0 ≤ no ∧ no < k ∧ (∃ z, s = .int .i64 z) ∧ r = .int .i64 0 ∧ res = .int .i64 2 ∧ Pst w wr (w.heap.size + 1) w.heap.size 3 []))) (fun _ _ _ i _ => k - (intOf i).toNat)
        case atStart =>
          refine ⟨0, rfl, Nat.zero_le _, .inl ⟨fun m hm => by omega, ?_, ?_, ?_, p6⟩⟩
          · by_cases h0 : k = 0
            · subst h0; rfl
            · rw [if_pos (by omega)]
          · by_cases h0 : k = 0
            · subst h0; rfl
            · rw [if_pos (by omega)]
          · rw [← HR0.out]
            by_cases h0 : k = 0
            · subst h0; rfl
            · rw [if_neg h0, if_pos (by omega)]
        case round =>
          clear p6 hc6
          obtain ⟨j, rfl, hj, hst⟩ := hrel
          rcases hst with ⟨hnot, rfl, rfl, rfl, p7⟩ | ⟨hn0, hn1, ⟨z, rfl⟩, rfl, rfl, p7⟩
          · by_cases hlt' : j < k
            · rw [if_pos hlt', if_pos hlt', if_pos hlt']
              have hl1 : ((j : Int) < (k : Int)) := by omega
              have hi1 : (0 : Int) ≤ (j : Int) := by omega
              have hbk := hub j hlt'
              obtain ⟨ad, c', hvv, q0⟩ := (hv.no p7.2).at_one cellsB_len hbk rfl
              rw [hN.out] at hvv
              cases hvv
              have hyk := ysL_len u k
              by_cases hjn : (j : Int) = no
              · obtain ⟨M, hvd, hMl⟩ := c_no (u := u) hlt' h8
                have hvo := p7.vote ⟨4, j, 3, 11, []⟩ rfl
                rw [hvd] at hvo
                clear hvd
                unfold msgV at hvo
                simp only at hvo
                subst hjn
                cases hb : upd u j with
                | true =>
                  rw [hb] at q0
                  go_upto_region 25 with (first
                    | (go_at_call 10; refine hvo.mono ?_; clear hvo; rintro e w8 ⟨v, rfl, hd, p8, c8⟩; obtain ⟨a8, j8, a8', n8', j8', rfl, hM8⟩ := hd.shape; simp only at hM8 ⊢)
                    | (refine wpList_deal (deal_new _) rfl _ _ rfl rfl (.slice a8 M.length j8) (0) (0) (.slice a8' n8' j8') (2) rfl ⟨_, _, _, rfl⟩ ⟨_, _, _, rfl⟩ ?_; intro w9 hD9 hc9 hs9)
                    | fail)
                  have p9 := p8.no (nob_of_deal hc9)
                  have y0 := hD9.cell 0 rfl
                  have y1 := hD9.cell 1 rfl
                  have y17 := hD9.cell 17 rfl
                  have hlD := hD9.lt
                  clear hd hM8 p7 p8 c8 hc9 hs9 hD9
                  go_wp2_with fail
                  exact ⟨⟨j + 1, by go_num, by omega, .inr ⟨by omega, by omega, ⟨_, rfl⟩, rfl, rfl, p9⟩⟩, by simp [intOf]; omega⟩
                | false =>
                  rw [hb] at q0
                  go_upto_region 25 with (first
                    | (go_at_call 10; refine hvo.mono ?_; clear hvo; rintro e w8 ⟨v, rfl, hd, p8, c8⟩; obtain ⟨a8, j8, a8', n8', j8', rfl, hM8⟩ := hd.shape; simp only at hM8 ⊢)
                    | (refine wpList_deal (deal_new _) rfl _ _ rfl rfl (.slice a8 M.length j8) (0) (0) (.slice a8' n8' j8') (2) rfl ⟨_, _, _, rfl⟩ ⟨_, _, _, rfl⟩ ?_; intro w9 hD9 hc9 hs9)
                    | fail)
                  have p9 := p8.no (nob_of_deal hc9)
                  have y0 := hD9.cell 0 rfl
                  have y1 := hD9.cell 1 rfl
                  have y17 := hD9.cell 17 rfl
                  have hlD := hD9.lt
                  clear hd hM8 p7 p8 c8 hc9 hs9 hD9
                  go_wp2_with fail
                  exact ⟨⟨j + 1, by go_num, by omega, .inr ⟨by omega, by omega, ⟨_, rfl⟩, rfl, rfl, p9⟩⟩, by simp [intOf]; omega⟩
              · have hjn2 : ((j : Int) == no) = false := by simpa using hjn
                have hvo := p7.vote ⟨kindOf u j, j, 3, 11, []⟩ rfl
                rw [c_vote hlt' h8] at hvo
                unfold msgV at hvo
                simp only at hvo
                have hnot' : ∀ m : Nat, m < j + 1 → (m : Int) ≠ no := fun m hm => by
                  rcases Nat.lt_succ_iff_lt_or_eq.1 hm with h | rfl
                  · exact hnot m h
                  · exact hjn
                have HN := Lib.hid hnot'
                clear hnot' hjn
                by_cases hlast : j + 1 < k
                · rw [if_pos hlast] at hvo
                  unfold kindOf at hvo
                  cases hb : upd u j with
                  | true =>
                    rw [hb] at q0 hvo
                    simp only [if_true] at hvo
                    go_upto_region 25 with (first
                      | (go_at_call 10; refine hvo.mono ?_; clear hvo; rintro e w8 ⟨v, rfl, hd, p8, c8⟩; obtain ⟨a8, j8, a8', n8', j8', rfl, hM8⟩ := hd.shape; unfold noDeal at hM8 ⊢; simp only [List.length_nil] at hM8 ⊢)
                      | (refine wpList_deal (deal_new _) rfl _ _ rfl rfl (.slice a8 0 j8) (0) (0) (.slice a8' n8' j8') (0) rfl ⟨_, _, _, rfl⟩ ⟨_, _, _, rfl⟩ ?_; intro w9 hD9 hc9 hs9)
                      | fail)
                    have p9 := p8.no (nob_of_deal hc9)
                    have y0 := hD9.cell 0 rfl
                    have y1 := hD9.cell 1 rfl
                    have y17 := hD9.cell 17 rfl
                    have hlD := hD9.lt
                    clear hd hM8 p7 p8 c8 hc9 hs9 hD9
                    go_wp2_with fail
                    exact ⟨⟨j + 1, by go_num, by omega, .inl ⟨HN.out, by rw [if_pos hlast]; try simp, by rw [if_pos hlast], by rw [if_pos hlast], p9⟩⟩, by simp [intOf]; omega⟩
                  | false =>
                    rw [hb] at q0 hvo
                    simp only [Bool.false_eq_true, if_false] at hvo
                    go_upto_region 25 with (first
                      | (go_at_call 10; refine hvo.mono ?_; clear hvo; rintro e w8 ⟨v, rfl, hd, p8, c8⟩; obtain ⟨a8, j8, a8', n8', j8', rfl, hM8⟩ := hd.shape; unfold noDeal at hM8 ⊢; simp only [List.length_nil] at hM8 ⊢)
                      | (refine wpList_deal (deal_new _) rfl _ _ rfl rfl (.slice a8 0 j8) (0) (0) (.slice a8' n8' j8') (0) rfl ⟨_, _, _, rfl⟩ ⟨_, _, _, rfl⟩ ?_; intro w9 hD9 hc9 hs9)
                      | fail)
                    have p9 := p8.no (nob_of_deal hc9)
                    have y0 := hD9.cell 0 rfl
                    have y1 := hD9.cell 1 rfl
                    have y17 := hD9.cell 17 rfl
                    have hlD := hD9.lt
                    clear hd hM8 p7 p8 c8 hc9 hs9 hD9
                    go_wp2_with fail
                    exact ⟨⟨j + 1, by go_num, by omega, .inl ⟨HN.out, by rw [if_pos hlast]; try simp, by rw [if_pos hlast], by rw [if_pos hlast], p9⟩⟩, by simp [intOf]; omega⟩
                · rw [if_neg hlast] at hvo
                  have hkj : j + 1 = k := by omega
                  have HK := Lib.hid hkj
                  clear hkj
                  by_cases hy : ysL u k = []
                  · rw [if_pos hy] at hvo
                    have hub2 : upd u j = false := by
                      cases hb : upd u j with
                      | false => rfl
                      | true => exact absurd hy (ysL_ne hb hlt')
                    unfold kindOf at hvo
                    rw [hub2] at q0 hvo
                    simp only [Bool.false_eq_true, if_false] at hvo
                    have HYE := Lib.hid hy
                    clear hy hub2
                    go_upto_region 25 with (first
                      | (go_at_call 10; refine hvo.mono ?_; clear hvo; rintro e w8 ⟨v, rfl, hd, p8, c8⟩; obtain ⟨a8, j8, a8', n8', j8', rfl, hM8⟩ := hd.shape; simp only [List.length_nil] at hM8 ⊢)
                      | (refine wpList_deal (deal_new _) rfl _ _ rfl rfl (.slice a8 0 j8) (0) (0) (.slice a8' n8' j8') (1) rfl ⟨_, _, _, rfl⟩ ⟨_, _, _, rfl⟩ ?_; intro w9 hD9 hc9 hs9)
                      | fail)
                    have p9 := p8.no (nob_of_deal hc9)
                    have y0 := hD9.cell 0 rfl
                    have y1 := hD9.cell 1 rfl
                    have y17 := hD9.cell 17 rfl
                    have hlD := hD9.lt
                    clear hd hM8 p7 p8 c8 hc9 hs9 hD9
                    go_wp2_with fail
                    have hce : costE u k (j + 1) = [] := by unfold costE; rw [if_neg hlast, if_pos HYE.out]
                    exact ⟨⟨j + 1, by go_num, by omega, .inl ⟨HN.out, by rw [if_neg hlast, HYE.out]; simp, by rw [if_neg hlast, if_pos HYE.out], by rw [if_neg hlast], by rw [hce]; exact p9⟩⟩, by simp [intOf]; omega⟩
                  · rw [if_neg hy] at hvo
                    unfold kindOf at hvo
                    have hsl := c_sent u k
                    have HYE := Lib.hid (show ysL u k ≠ [] from hy)
                    clear hy
                    cases hb : upd u j with
                    | true =>
                      rw [hb] at q0 hvo
                      simp only [if_true] at hvo
                      go_upto_region 25 with (first
                        | (go_at_call 10; refine hvo.mono ?_; clear hvo; rintro e w8 ⟨v, rfl, hd, p8, c8⟩; obtain ⟨a8, j8, a8', n8', j8', rfl, hM8⟩ := hd.shape; simp only [List.length_nil] at hM8 ⊢)
                        | (refine wpList_deal (deal_new _) rfl _ _ rfl rfl (.slice a8 0 j8) (9) (11) (.slice a8' n8' j8') (0) rfl ⟨_, _, _, rfl⟩ ⟨_, _, _, rfl⟩ ?_; intro w9 hD9 hc9 hs9)
                        | fail)
                      have p9 := p8.no (nob_of_deal hc9)
                      have hge := p8.2.size
                      have y1 := hD9.cell 1 rfl
                      have hlD := hD9.lt
                      have hsu := p9.sure 11 tI
                      rw [c_sure HYE.out] at hsu
                      clear hd hM8 p7 p8 c8 hc9 hs9
                      go_upto_region 28 with (first
                        | (go_at_call 11; refine hsu.mono ?_; clear hsu; rintro e w10 ⟨v, rfl, hd, p10, c10⟩; obtain ⟨a10, j10, a10', n10', j10', rfl, hM10⟩ := hd.shape; simp only at hM10 ⊢; rw [hsl] at hM10 ⊢; have hD10 := kd_at' hD9 c10 (by decide) (by decide); have hDl := hD10.lt)
                        | (refine wpList_deal (hD10) rfl _ _ rfl rfl (.slice a10 (ysL u k).length j10) (0) (0) (.slice a10' n10' j10') (1) rfl ⟨_, _, _, rfl⟩ ⟨_, _, _, rfl⟩ ?_; intro w11 hD11 hc11 hs11)
                        | fail)
                      have p11 := p10.of_at hD10 hge (by decide) (by decide) (by decide) hc11
                      have y0 := hD11.cell 0 rfl
                      have y17 := hD11.cell 17 rfl
                      have hlD11 := hD11.lt
                      clear hd hM10 p9 p10 c10 hc11 hs11 hD9 hD10 hD11 y1
                      go_wp2_with fail
                      have hk1 := HK.out
                      have hce : costE u k (j + 1) = costE u k k := by rw [hk1]
                      exact ⟨⟨j + 1, by go_num, by omega, .inl ⟨HN.out, by rw [if_neg hlast], by rw [if_neg hlast, if_neg HYE.out], by rw [if_neg hlast], by rw [hce]; exact p11⟩⟩, by simp [intOf]; omega⟩
                    | false =>
                      rw [hb] at q0 hvo
                      simp only [Bool.false_eq_true, if_false] at hvo
                      go_upto_region 25 with (first
                        | (go_at_call 10; refine hvo.mono ?_; clear hvo; rintro e w8 ⟨v, rfl, hd, p8, c8⟩; obtain ⟨a8, j8, a8', n8', j8', rfl, hM8⟩ := hd.shape; simp only [List.length_nil] at hM8 ⊢)
                        | (refine wpList_deal (deal_new _) rfl _ _ rfl rfl (.slice a8 0 j8) (9) (11) (.slice a8' n8' j8') (0) rfl ⟨_, _, _, rfl⟩ ⟨_, _, _, rfl⟩ ?_; intro w9 hD9 hc9 hs9)
                        | fail)
                      have p9 := p8.no (nob_of_deal hc9)
                      have hge := p8.2.size
                      have y1 := hD9.cell 1 rfl
                      have hlD := hD9.lt
                      have hsu := p9.sure 11 tI
                      rw [c_sure HYE.out] at hsu
                      clear hd hM8 p7 p8 c8 hc9 hs9
                      go_upto_region 28 with (first
                        | (go_at_call 11; refine hsu.mono ?_; clear hsu; rintro e w10 ⟨v, rfl, hd, p10, c10⟩; obtain ⟨a10, j10, a10', n10', j10', rfl, hM10⟩ := hd.shape; simp only at hM10 ⊢; rw [hsl] at hM10 ⊢; have hD10 := kd_at' hD9 c10 (by decide) (by decide); have hDl := hD10.lt)
                        | (refine wpList_deal (hD10) rfl _ _ rfl rfl (.slice a10 (ysL u k).length j10) (0) (0) (.slice a10' n10' j10') (1) rfl ⟨_, _, _, rfl⟩ ⟨_, _, _, rfl⟩ ?_; intro w11 hD11 hc11 hs11)
                        | fail)
                      have p11 := p10.of_at hD10 hge (by decide) (by decide) (by decide) hc11
                      have y0 := hD11.cell 0 rfl
                      have y17 := hD11.cell 17 rfl
                      have hlD11 := hD11.lt
                      clear hd hM10 p9 p10 c10 hc11 hs11 hD9 hD10 hD11 y1
                      go_wp2_with fail
                      have hk1 := HK.out
                      have hce : costE u k (j + 1) = costE u k k := by rw [hk1]
                      exact ⟨⟨j + 1, by go_num, by omega, .inl ⟨HN.out, by rw [if_neg hlast], by rw [if_neg hlast, if_neg HYE.out], by rw [if_neg hlast], by rw [hce]; exact p11⟩⟩, by simp [intOf]; omega⟩
            · obtain rfl : j = k := by omega
              rw [if_neg (Nat.lt_irrefl _), if_neg (Nat.lt_irrefl _), if_neg (Nat.lt_irrefl _)]
              have hd1 : decide ((j : Int) < (j : Int)) = false := by simp
              have hout : ¬ (0 ≤ no ∧ no < j) := fun ⟨h1, h2⟩ => hnot no.toNat (by omega) (by omega)
              have hyk := ysL_len u j
              have hr0 : (if ysL u j = [] then (0 : Int) else 1) = recA u j 0 := by
                unfold recA
                rw [yrL_zero]
                by_cases hy : ysL u j = []
                · rw [if_pos hy, if_pos hy]
                · rw [if_neg hy, if_neg hy, if_neg hy]
              rw [hr0]
              rw [← ackE_zero] at p7
              clear hr0 hnot hlt' hj
              generalize hL : (ysL u j).length = L at *
              have HL := Lib.hid hL
              clear hL
              by_cases hno0 : 0 ≤ no
              · have hd2 : decide (0 ≤ no) = true := by simpa using hno0
                have hd3 : decide (no < (j : Int)) = false := by simp; omega
                clear hout
                go_wp2_with fail
                go_loopw [11, 16] (fun r i wr => ∃ m : Nat, i = .int .i64 m ∧ m ≤ j ∧ r = .int .i64 (recA u j m) ∧ Pst w wr (w.heap.size + 1) w.heap.size 3 (ackE u j m)) (fun _ i _ => j - (intOf i).toNat)
                case atStart => exact ⟨0, rfl, Nat.zero_le _, rfl, p7⟩
                case round =>
                  clear p7
                  obtain ⟨m, rfl, hm, rfl, p8⟩ := hrel
                  by_cases hlt' : m < j
                  · have hl1 : ((m : Int) < (j : Int)) := by omega
                    have hi1 : (0 : Int) ≤ (m : Int) := by omega
                    have hbk := hub m hlt'
                    obtain ⟨ad, c', hvv, q0⟩ := (hv.no p8.2).at_one cellsB_len hbk rfl
                    rw [hN.out] at hvv
                    cases hvv
                    cases hb : upd u m with
                    | false =>
                      rw [hb] at q0
                      rw [ackE_skip hb] at p8
                      rw [← recA_skip hb]
                      clear hb
                      go_wp2_with fail
                      exact ⟨⟨m + 1, by go_num, by omega, rfl, p8⟩, by simp [intOf]; omega⟩
                    | true =>
                      rw [hb] at q0
                      have hac := p8.ack ⟨7, m, 3, 11, []⟩ rfl
                      rw [c_ack hlt' h8 hb] at hac
                      unfold msgV at hac
                      simp only at hac
                      obtain ⟨hr1, hr2⟩ := recA_upd hb hlt'
                      rw [hr1]
                      have HR := Lib.hid hr2
                      clear hb hr1 hr2
                      by_cases hy : yrL u j (m + 1) = []
                      · rw [if_pos hy] at hac
                        have hre : recA u j (m + 1) = 2 := by rw [HR.out, if_pos hy]
                        have HRE := Lib.hid hre
                        clear hre hy HR
                        go_wp2_with (first
                          | (go_at_call 14; refine hac.mono ?_; clear hac; rintro e w9 ⟨v, rfl, hd, p9, c9⟩; obtain ⟨a9, j9, a9', n9', j9', rfl, hM9⟩ := hd.shape; simp only [List.length_nil] at hM9 ⊢)
                          | fail)
                        exact ⟨⟨m + 1, by go_num, by omega, by rw [HRE.out], p9⟩, by simp [intOf]; omega⟩
                      · rw [if_neg hy] at hac
                        have hre : recA u j (m + 1) = 1 := by rw [HR.out, if_neg hy]
                        have HRE := Lib.hid hre
                        clear hre hy HR
                        go_wp2_with (first
                          | (go_at_call 14; refine hac.mono ?_; clear hac; rintro e w9 ⟨v, rfl, hd, p9, c9⟩; obtain ⟨a9, j9, a9', n9', j9', rfl, hM9⟩ := hd.shape; unfold noDeal at hM9 ⊢; simp only [List.length_nil] at hM9 ⊢)
                          | fail)
                        exact ⟨⟨m + 1, by go_num, by omega, by rw [HRE.out], p9⟩, by simp [intOf]; omega⟩
                  · obtain rfl : m = j := by omega
                    have hd1 : decide ((m : Int) < (m : Int)) = false := by simp
                    have hre := recA_all u m
                    rw [HL.out] at hre
                    rw [ackE_all] at p8
                    have hA := p8.all0
                    have hcp := p8.2
                    by_cases hL0 : L = 0
                    · rw [if_pos hL0] at hre
                      rw [hre]
                      subst hL0
                      clear hre
                      go_wp2_with (first
                        | (go_at_call 12; refine hA.mono ?_; clear hA; rintro e w9 ⟨⟨a9, k9, rfl⟩, hc9⟩)
                        | (go_at_call 5; refine (haw _).mono ?_; rintro e w20 ⟨rfl, hc20⟩)
                        | fail)
                      go_ret
                      exact ⟨rfl, ((hcp.trans hc9 (by simp [NoB])).trans hc20 (by simp [NoB])).below (Nat.le_refl _) (fun k h => h.elim)⟩
                    · rw [if_neg hL0] at hre
                      rw [hre]
                      have hLz : ((L : Int) == 0) = false := by simpa using hL0
                      have hLz2 : (L == 0) = false := by simpa using hL0
                      clear hre
                      go_wp2_with (first
                        | (go_at_call 12; refine hA.mono ?_; clear hA; rintro e w9 ⟨⟨a9, k9, rfl⟩, hc9⟩)
                        | (go_at_call 5; refine (haw _).mono ?_; rintro e w20 ⟨rfl, hc20⟩)
                        | fail)
                      go_ret
                      exact ⟨rfl, ((hcp.trans hc9 (by simp [NoB])).trans hc20 (by simp [NoB])).below (Nat.le_refl _) (fun k h => h.elim)⟩
              · have hd2 : decide (0 ≤ no) = false := by simpa using hno0
                clear hout
                go_wp2_with fail
                go_loopw [11, 16] (fun r i wr => ∃ m : Nat, i = .int .i64 m ∧ m ≤ j ∧ r = .int .i64 (recA u j m) ∧ Pst w wr (w.heap.size + 1) w.heap.size 3 (ackE u j m)) (fun _ i _ => j - (intOf i).toNat)
                case atStart => exact ⟨0, rfl, Nat.zero_le _, rfl, p7⟩
                case round =>
                  clear p7
                  obtain ⟨m, rfl, hm, rfl, p8⟩ := hrel
                  by_cases hlt' : m < j
                  · have hl1 : ((m : Int) < (j : Int)) := by omega
                    have hi1 : (0 : Int) ≤ (m : Int) := by omega
                    have hbk := hub m hlt'
                    obtain ⟨ad, c', hvv, q0⟩ := (hv.no p8.2).at_one cellsB_len hbk rfl
                    rw [hN.out] at hvv
                    cases hvv
                    cases hb : upd u m with
                    | false =>
                      rw [hb] at q0
                      rw [ackE_skip hb] at p8
                      rw [← recA_skip hb]
                      clear hb
                      go_wp2_with fail
                      exact ⟨⟨m + 1, by go_num, by omega, rfl, p8⟩, by simp [intOf]; omega⟩
                    | true =>
                      rw [hb] at q0
                      have hac := p8.ack ⟨7, m, 3, 11, []⟩ rfl
                      rw [c_ack hlt' h8 hb] at hac
                      unfold msgV at hac
                      simp only at hac
                      obtain ⟨hr1, hr2⟩ := recA_upd hb hlt'
                      rw [hr1]
                      have HR := Lib.hid hr2
                      clear hb hr1 hr2
                      by_cases hy : yrL u j (m + 1) = []
                      · rw [if_pos hy] at hac
                        have hre : recA u j (m + 1) = 2 := by rw [HR.out, if_pos hy]
                        have HRE := Lib.hid hre
                        clear hre hy HR
                        go_wp2_with (first
                          | (go_at_call 14; refine hac.mono ?_; clear hac; rintro e w9 ⟨v, rfl, hd, p9, c9⟩; obtain ⟨a9, j9, a9', n9', j9', rfl, hM9⟩ := hd.shape; simp only [List.length_nil] at hM9 ⊢)
                          | fail)
                        exact ⟨⟨m + 1, by go_num, by omega, by rw [HRE.out], p9⟩, by simp [intOf]; omega⟩
                      · rw [if_neg hy] at hac
                        have hre : recA u j (m + 1) = 1 := by rw [HR.out, if_neg hy]
                        have HRE := Lib.hid hre
                        clear hre hy HR
                        go_wp2_with (first
                          | (go_at_call 14; refine hac.mono ?_; clear hac; rintro e w9 ⟨v, rfl, hd, p9, c9⟩; obtain ⟨a9, j9, a9', n9', j9', rfl, hM9⟩ := hd.shape; unfold noDeal at hM9 ⊢; simp only [List.length_nil] at hM9 ⊢)
                          | fail)
                        exact ⟨⟨m + 1, by go_num, by omega, by rw [HRE.out], p9⟩, by simp [intOf]; omega⟩
                  · obtain rfl : m = j := by omega
                    have hd1 : decide ((m : Int) < (m : Int)) = false := by simp
                    have hre := recA_all u m
                    rw [HL.out] at hre
                    rw [ackE_all] at p8
                    have hA := p8.all0
                    have hcp := p8.2
                    by_cases hL0 : L = 0
                    · rw [if_pos hL0] at hre
                      rw [hre]
                      subst hL0
                      clear hre
                      go_wp2_with (first
                        | (go_at_call 12; refine hA.mono ?_; clear hA; rintro e w9 ⟨⟨a9, k9, rfl⟩, hc9⟩)
                        | (go_at_call 5; refine (haw _).mono ?_; rintro e w20 ⟨rfl, hc20⟩)
                        | fail)
                      go_ret
                      exact ⟨rfl, ((hcp.trans hc9 (by simp [NoB])).trans hc20 (by simp [NoB])).below (Nat.le_refl _) (fun k h => h.elim)⟩
                    · rw [if_neg hL0] at hre
                      rw [hre]
                      have hLz : ((L : Int) == 0) = false := by simpa using hL0
                      have hLz2 : (L == 0) = false := by simpa using hL0
                      clear hre
                      go_wp2_with (first
                        | (go_at_call 12; refine hA.mono ?_; clear hA; rintro e w9 ⟨⟨a9, k9, rfl⟩, hc9⟩)
                        | (go_at_call 5; refine (haw _).mono ?_; rintro e w20 ⟨rfl, hc20⟩)
                        | fail)
                      go_ret
                      exact ⟨rfl, ((hcp.trans hc9 (by simp [NoB])).trans hc20 (by simp [NoB])).below (Nat.le_refl _) (fun k h => h.elim)⟩
          · have hd2 : decide (0 ≤ no) = true := by simpa using hn0
            have hd3 : decide (no < (k : Int)) = true := by simpa using hn1
            have hA := p7.all0
            have ends := fun (W : World) (h : Chg NoB w W) => h.below (Nat.le_refl _) (fun k h => h.elim)
            by_cases hlt' : j < k
            · have hl1 : ((j : Int) < (k : Int)) := by omega
              go_wp2_with (first
                | (go_at_call 12; refine hA.mono ?_; clear hA; rintro e w8 ⟨⟨a8, k8, rfl⟩, hc8⟩; have p8 := p7.no hc8; have hD := p8.deeds0)
                | (go_at_call 13; refine hD.mono ?_; clear hD; rintro e w9 ⟨rfl, hc9⟩)
                | (go_at_call 5; refine (haw _).mono ?_; rintro e w20 ⟨rfl, hc20⟩)
                | fail)
              go_ret
              exact ⟨rfl, ends _ ((p8.2.trans hc9 (by simp [NoB])).trans hc20 (by simp [NoB]))⟩
            · obtain rfl : j = k := by omega
              have hd1 : decide ((j : Int) < (j : Int)) = false := by simp
              go_wp2_with (first
                | (go_at_call 12; refine hA.mono ?_; clear hA; rintro e w8 ⟨⟨a8, k8, rfl⟩, hc8⟩; have p8 := p7.no hc8; have hD := p8.deeds0)
                | (go_at_call 13; refine hD.mono ?_; clear hD; rintro e w9 ⟨rfl, hc9⟩)
                | (go_at_call 5; refine (haw _).mono ?_; rintro e w20 ⟨rfl, hc20⟩)
                | fail)
              go_ret
              exact ⟨rfl, ends _ ((p8.2.trans hc9 (by simp [NoB])).trans hc20 (by simp [NoB]))⟩
  · have hd0 : decide ((8 : Int) < (u.length : Int)) = true := by simp; omega
    go_enter Try.func3, Try.ntmps3
    go_wp2_with (first | (go_at_call 5; refine (haw _).mono ?_; rintro e w2 ⟨rfl, hc2⟩) | fail)
    go_ret
    exact ⟨rfl, hc2.below (Nat.le_refl _) (fun k h => h.elim)⟩
end Go.Proofs.Ythpnhndligblaaa
