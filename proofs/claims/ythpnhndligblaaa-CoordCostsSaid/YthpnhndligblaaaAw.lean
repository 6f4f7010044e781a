/- The law's 'awake' answers true. Conditions: none. -/
import Derived.Test.YthpnhndligblaaaSi
namespace Go.Proofs.Ythpnhndligblaaa
open Go.RowKit Go.Maps Go.BigFrame
theorem CAt.not_own {w : World} {bc bm b : Nat} {me : Int} {l : List Ep} {cs : List Value} {T : TypeId} (h : CAt w bc bm me l) (ha : At w b cs T) (h2 : (3 : TypeId) ≠ T) (h3 : (61 : TypeId) ≠ T) : ¬ owned bm l b := by
  rintro (rfl | ⟨p, hp, hk⟩)
  · exact h.mp.ne_at ha rfl
  · exact (h.own p hp).ne_at ha h2 h3 hk
def ms (k f : Int) : Mg := ⟨k, f, 0, 8, []⟩
def e3 : En := ⟨8, 3, [1, 2], [], [], false⟩
def e4 : En := ⟨8, 4, [1, 2], [1, 2], [], false⟩
def e5 : En := ⟨8, 4, [1, 2], [2], [1], false⟩
def e6 : En := ⟨8, 5, [1, 2], [1], [1], false⟩
def e7 : En := ⟨8, 5, [1, 2], [1], [1], true⟩
theorem d1 : openD 0 [] 8 = (0, [newE 8]) := by rfl
theorem d2 : enlistD [newE 8] 8 2 = (0, [⟨8, 3, [2], [], [], false⟩]) := by rfl
theorem d3 : enlistD [⟨8, 3, [2], [], [], false⟩] 8 1 = (0, [e3]) := by rfl
theorem d4 : askD 0 [e3] 8 = (0, ⟨toM 1 0 8 [1, 2] [1, 2], 0, 0, [], 0⟩, [e4]) := by rfl
theorem d5 : voteD 0 [e4] (ms 2 1) = (noDeal, [e5]) := by rfl
theorem d6 : voteD 0 [e5] (ms 3 2) = (⟨[], 9, 8, [1], 0⟩, [e6]) := by rfl
theorem d7 : sureD 0 [e6] 8 = (⟨toM 5 0 8 [1, 2] [1], 0, 0, [], 1⟩, [e7]) := by
  have : sortI [1] = [1] := by simp [sortI]
  unfold sureD
  show (if (5 : Int) ≠ 5 ∨ false = true then _ else _) = _
  rw [if_neg (by simp)]
  show (_, _) = _
  rw [show (e6 : En).aw = [1] from rfl, this]
  rfl
theorem d8 : ackD 0 [e7] (ms 7 1) = (⟨[], 10, 8, [], 0⟩, []) := by rfl
theorem nob_of_deal {w w2 : World} (c : Chg (· = w.heap.size) (w.alloc (.cells #[.slice none 0 0, .int .i64 0, .int .i64 0, .int .i64 0, .int .i64 0, .string ⟨#[]⟩, .bool false, .string ⟨#[]⟩, .bool false, .string ⟨#[]⟩, .int .i64 0, .slice none 0 0, .slice none 0 0, .slice none 0 0, .slice none 0 0, .slice none 0 0, .slice none 0 0, .int .i64 0] 41)) w2) : Chg NoB w w2 := (deal_chg w).fresh c (Nat.le_refl _)
set_option maxRecDepth 100000 in
set_option maxHeartbeats 4000000 in
theorem awake_any (w : World) : Calls Try.prog 5 #[] w fun e w' => e = .returned (.bool true) ∧ Chg NoB w w' := by
  have hnew := new_any 0 w (by omega) (by omega)
  go_enter Try.func5, Try.ntmps5
  go_upto_region 2 with (first | (go_at_call 6; refine hnew.mono ?_; clear hnew; rintro e w1 ⟨rfl, h1, hc1⟩) | fail)
  have hbc := h1.hd.lt
  have ok1 : ∀ p ∈ ([] : List Ep), OkP 0 p := by simp
  have lo1 : ∀ k, owned w.heap.size ([] : List Ep) k → w.heap.size ≤ k := by rintro k (rfl | ⟨p, hp, _⟩); exact Nat.le_refl _; cases hp
  have nx : ∀ {wa wb : World} {la lb : List Ep}, Chg NoB w wa → (∀ k, owned w.heap.size la k → w.heap.size ≤ k) → Chg (owned w.heap.size la) wa wb → (∀ k, owned w.heap.size lb k → owned w.heap.size la k ∨ wa.heap.size ≤ k) → Chg NoB w wb ∧ ∀ k, owned w.heap.size lb k → w.heap.size ≤ k := by
    intro wa wb la lb c lo c2 n
    refine ⟨c.trans c2 (fun j h1 h2 => by have := lo j h2; omega), fun k hk => ?_⟩
    rcases n k hk with h | h
    · exact lo k h
    · have := c.size; omega
  have ho := open_step h1 ok1 8
  rw [show openD 0 (esOf []) 8 = (0, [newE 8]) from d1] at ho
  go_upto_region 4 with (first
    | (go_at_call 7; refine ho.mono ?_; clear ho; rintro e w2 ⟨rfl, l2, h2, ok2, es2, c2, n2⟩; obtain ⟨hc2, lo2⟩ := nx hc1 lo1 c2 n2; have hn1 := enlist_step h2 ok2 8 2 (by unfold I64; omega); rw [es2, d2] at hn1)
    | (go_at_call 8; refine hn1.mono ?_; clear hn1; rintro e w3 ⟨rfl, l3, h3, ok3, es3, c3, n3⟩; obtain ⟨hc3, lo3⟩ := nx hc2 lo2 c3 n3; have hn2 := enlist_step h3 ok3 8 1 (by unfold I64; omega); rw [es3, d3] at hn2)
    | (go_at_call 8; refine hn2.mono ?_; clear hn2; rintro e w4 ⟨rfl, l4, h4, ok4, es4, c4, n4⟩; obtain ⟨hc4, lo4⟩ := nx hc3 lo3 c4 n4; have ha := ask_step h4 ok4 8 (by unfold I64; omega); rw [es4, d4] at ha)
    | fail)
  clear h1 h2 h3 c2 c3 c4 n2 n3 n4 ok1 ok2 ok3 lo1 lo2 lo3 hc1 hc2 hc3 es2 es3
  go_upto_region 5 with (first
    | (go_at_call 9; refine ha.mono ?_; clear ha; rintro e w5 ⟨v, rfl, ⟨sv, mv, rfl, hM, hI⟩, l5, h5, ok5, es5, c5, n5⟩; obtain ⟨hc5, lo5⟩ := nx hc4 lo4 c5 n5; obtain ⟨a5, k5, rfl, _⟩ := hM.shape; obtain ⟨a5', n5', k5', rfl⟩ := hI.isSl)
    | (refine wpList_deal (deal_new _) rfl _ _ rfl rfl (.slice a5 (toM 1 0 8 [1, 2] [1, 2]).length k5) (0) (0) (.slice a5' n5' k5') (0) rfl ⟨_, _, _, rfl⟩ ⟨_, _, _, rfl⟩ ?_; intro w6 hD6 hc6 hs6)
    | fail)
  have c56 := nob_of_deal hc6
  have hDd := hD6
  have h6 := h5.no c56
  have hc6' := hc5.trans c56 (by simp [NoB])
  have hv1 := vote_step h6 ok5 (ms 2 1) (.slice none 0 0) (Sees.nil _) (by simp [ms])
  rw [es5, d5] at hv1
  unfold ms msgV at hv1
  simp only at hv1
  clear hI hM h4 c5 n5 ok4 lo4 hc4 es4 hc6 h5 hc5 c56 hD6 hs6
  go_upto_region 6 with (first
    | (go_at_call 10; refine hv1.mono ?_; clear hv1; rintro e w7 ⟨v, B7, rfl, _, ⟨sv, mv, rfl, hM, hI⟩, l7, h7, ok7, es7, c7, n7, _⟩; obtain ⟨hc7, lo7⟩ := nx hc6' lo5 c7 n7; have hDd := hDd.chg c7 (h6.not_own hDd (by decide) (by decide)); obtain ⟨a7, m7, k7, rfl⟩ := hM.isSl; obtain ⟨a7', n7', k7', rfl⟩ := hI.isSl)
    | (refine wpList_deal (deal_new _) rfl _ _ rfl rfl (.slice a7 m7 k7) (0) (0) (.slice a7' n7' k7') (0) rfl ⟨_, _, _, rfl⟩ ⟨_, _, _, rfl⟩ ?_; intro w8 hD8 hc8 hs8)
    | fail)
  have c78 := nob_of_deal hc8
  have hDa := hD8
  have hDd := hDd.chg c78 (by simp [NoB])
  have h8 := h7.no c78
  have hc8' := hc7.trans c78 (by simp [NoB])
  have hv2 := vote_step h8 ok7 (ms 3 2) (.slice none 0 0) (Sees.nil _) (by simp [ms])
  rw [es7, d6] at hv2
  unfold ms msgV at hv2
  simp only at hv2
  clear hI hM h6 c7 n7 ok5 lo5 hc6' es5 hc8 h7 hc7 c78 hD8 hs8
  go_upto_region 7 with (first
    | (go_at_call 10; refine hv2.mono ?_; clear hv2; rintro e w9 ⟨v, B9, rfl, hB9, ⟨sv, mv, rfl, hM, hI⟩, l9, h9, ok9, es9, c9, n9, lB⟩; obtain ⟨hc9, lo9⟩ := nx hc8' lo7 c9 n9; have hDd := hDd.chg c9 (h8.not_own hDd (by decide) (by decide)); have hDa := hDa.chg c9 (h8.not_own hDa (by decide) (by decide)); obtain ⟨a9, m9, k9, rfl⟩ := hM.isSl; obtain ⟨a9', k9', rfl, _⟩ := hI.shape)
    | (refine wpList_deal (deal_new _) rfl _ _ rfl rfl (.slice a9 m9 k9) (9) (8) (.slice a9' [(1 : Int)].length k9') (0) rfl ⟨_, _, _, rfl⟩ ⟨_, _, _, rfl⟩ ?_; intro w10 hD10 hc10 hs10)
    | fail)
  have c90 := nob_of_deal hc10
  have hDb := hD10
  have hDd := hDd.chg c90 (by simp [NoB])
  have hDa := hDa.chg c90 (by simp [NoB])
  have h10 := h9.no c90
  have hI := hI.chg c90 (by simp [NoB])
  have hc10' := hc9.trans c90 (by simp [NoB])
  have hsu := sure_step h10 ok9 8 (by unfold I64; omega)
  rw [es9, d7] at hsu
  have hIlt := fun g hg => (RowOf.ge hI g hg)
  clear hM h8 c9 n9 ok7 lo7 hc8' es7 hc10 h9 hc9 c90 hD10 hs10
  go_upto_region 8 with (first
    | (go_at_call 11; refine hsu.mono ?_; clear hsu; rintro e w11 ⟨v, rfl, ⟨sv, mv, rfl, hM, hJ⟩, l11, h11, ok11, es11, c11, n11⟩; obtain ⟨hc11, lo11⟩ := nx hc10' lo9 c11 n11; have hDd := hDd.chg c11 (h10.not_own hDd (by decide) (by decide)); have hDa := hDa.chg c11 (h10.not_own hDa (by decide) (by decide)); have hDb := hDb.chg c11 (h10.not_own hDb (by decide) (by decide)); have hI := hI.chg c11 (fun g hg e => absurd (lB g e) (Nat.not_lt.2 (hIlt g hg).1)); obtain ⟨a11, k11, rfl, _⟩ := hM.shape; obtain ⟨a11', n11', k11', rfl⟩ := hJ.isSl)
    | (refine wpList_deal (deal_new _) rfl _ _ rfl rfl (.slice a11 (toM 5 0 8 [1, 2] [1]).length k11) (0) (0) (.slice a11' n11' k11') (1) rfl ⟨_, _, _, rfl⟩ ⟨_, _, _, rfl⟩ ?_; intro w12 hD12 hc12 hs12)
    | fail)
  have c112 := nob_of_deal hc12
  have hDs := hD12
  have hDd := hDd.chg c112 (by simp [NoB])
  have hDa := hDa.chg c112 (by simp [NoB])
  have hDb := hDb.chg c112 (by simp [NoB])
  have h12 := h11.no c112
  have hI := hI.chg c112 (by simp [NoB])
  have hc12' := hc11.trans c112 (by simp [NoB])
  have hak := ack_step h12 ok11 (ms 7 1) (.slice none 0 0) (Sees.nil _) (by simp [ms])
  rw [es11, d8] at hak
  unfold ms msgV at hak
  simp only at hak
  have hnI : ∀ g, (Value.slice a9' [(1 : Int)].length k9').ownBlock = some g → ¬ owned w.heap.size l11 g := fun g hg e => by
    rcases n11 g e with h | h
    · exact absurd (lB g h) (Nat.not_lt.2 (hIlt g hg).1)
    · have := (hIlt g hg).2
      omega
  clear hM hJ h10 c11 n11 ok9 lo9 hc10' es9 hc12 h11 hc11 c112 hD12 hs12 lB hIlt
  go_upto_region 9 with (first
    | (go_at_call 14; refine hak.mono ?_; clear hak; rintro e w13 ⟨v, rfl, ⟨sv, mv, rfl, hM, hJ⟩, l13, h13, ok13, es13, c13, n13⟩; obtain ⟨hc13, lo13⟩ := nx hc12' lo11 c13 n13; have hDd := hDd.chg c13 (h12.not_own hDd (by decide) (by decide)); have hDa := hDa.chg c13 (h12.not_own hDa (by decide) (by decide)); have hDb := hDb.chg c13 (h12.not_own hDb (by decide) (by decide)); have hDs := hDs.chg c13 (h12.not_own hDs (by decide) (by decide)); have hI := hI.chg c13 (fun g hg e => hnI g hg e); obtain ⟨a13, m13, k13, rfl⟩ := hM.isSl; obtain ⟨a13', n13', k13', rfl⟩ := hJ.isSl)
    | (refine wpList_deal (deal_new _) rfl _ _ rfl rfl (.slice a13 m13 k13) (10) (8) (.slice a13' n13' k13') (0) rfl ⟨_, _, _, rfl⟩ ⟨_, _, _, rfl⟩ ?_; intro w14 hD14 hc14 hs14)
    | fail)
  have c134 := nob_of_deal hc14
  have hDk := hD14
  have hDd := hDd.chg c134 (by simp [NoB])
  have hDa := hDa.chg c134 (by simp [NoB])
  have hDb := hDb.chg c134 (by simp [NoB])
  have hDs := hDs.chg c134 (by simp [NoB])
  have hI := hI.chg c134 (by simp [NoB])
  have hc14' := hc13.trans c134 (by simp [NoB])
  clear hM hJ h12 c13 n13 ok11 lo11 hc12' es11 hc14 h13 hc13 c134 hD14 hs14 hnI nx ok13 lo13 es13
  have q1 : w14.cell? ⟨w5.heap.size, 0, none⟩ = some (.slice a5 2 k5) := hDd.cell 0 rfl
  have q2 := hDa.cell 1 rfl
  have q3 := hDb.cell 1 rfl
  have q4 : w14.cell? ⟨w9.heap.size, 11, none⟩ = some (.slice a9' 1 k9') := hDb.cell 11 rfl
  have q5 : w14.cell? ⟨w11.heap.size, 0, none⟩ = some (.slice a11 1 k11) := hDs.cell 0 rfl
  have q6 := hDs.cell 17 rfl
  have q7 := hDk.cell 1 rfl
  have r1 := hDd.lt
  have r2 := hDa.lt
  have r3 := hDb.lt
  have r4 := hDs.lt
  have r5 := hDk.lt
  have hsI := sameInts_any (.slice a9' 1 k9') (.slice (some ⟨w14.heap.size, 0, none⟩) 1 1) [1] [1] (w14.alloc (.cells #[.int .i64 1] 3)) ((Sees.of_row hI).alloc _) (sees_at (l := [1]) (At.new w14 [.int .i64 1] 3)) (by simp) (by simp)
  have hA := (Chg.refl NoB w14).alloc (.cells #[.int .i64 1] 3)
  rw [decide_eq_true rfl] at hsI
  have q5' := S1 q5 hA
  have q6' := S1 q6 hA
  have q7' := S1 q7 hA
  clear hDd hDa hDb hDs hDk hI
  go_wp2_with (first
    | (go_at_call 18; refine hsI.mono ?_; clear hsI; rintro e w15 ⟨rfl, hc15⟩; have q5'' := S1 q5' hc15; have q6'' := S1 q6' hc15; have q7'' := S1 q7' hc15; have r6 : w11.heap.size < w15.heap.size := Nat.lt_of_lt_of_le r4 (Nat.le_trans hA.size hc15.size); have r7 : w13.heap.size < w15.heap.size := Nat.lt_of_lt_of_le r5 (Nat.le_trans hA.size hc15.size))
    | fail)
  go_ret
  exact ⟨rfl, (hc14'.trans hA (by simp [NoB])).trans hc15 (by simp [NoB])⟩
end Go.Proofs.Ythpnhndligblaaa
