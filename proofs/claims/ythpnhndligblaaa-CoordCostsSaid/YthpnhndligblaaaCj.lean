/- The coordinator: votes that count. Conditions: numbers within int. -/
import Derived.Test.YthpnhndligblaaaCi
namespace Go.Proofs.Ythpnhndligblaaa
open Go.RowKit Go.Maps Go.BigFrame
set_option maxRecDepth 100000 in
set_option maxHeartbeats 800000 in
theorem vote_giveup (bc bm : Nat) (me : Int) (l1 l2 : List Ep) (p : Ep) (w : World) (h : CAt w bc bm me (l1 ++ p :: l2)) (m : Mg) (mv : Value) (hv : Sees w cellsI mv m.ms) (hl : m.ms.length ≤ 1099511627776) (ba : Nat) (hao : p.ao = some ba) (hB : heardB me m [2, 3, 4] = true) (htx : m.tx = p.e.tx) (hp : p.e.phase = 4) (hfr : I64 m.frm) (hin : p.e.aw.contains m.frm = true) (hkd : m.kind = 4) (hml : p.e.mem.length ≤ 1000) (hal : p.e.aw.length ≤ 1000) (hyl : p.e.yes.length ≤ 1000) :
    Calls Try.prog 10 #[.pointer (some ⟨bc, 0, none⟩), msgV m mv] w fun e w' => ∃ v, e = .returned v ∧ DealIs w' w.heap.size v ⟨toM 6 me p.e.tx p.e.mem (sortI (sortI (dropI p.e.aw m.frm) ++ p.e.yes)), 0, 0, [], 2⟩ ∧ CAt w' bc bm me (l1 ++ l2) ∧ Chg (fun k => k = bm ∨ k ∈ blocks p) w w' := by
  have hti := mayM_tx (m := m) (by unfold heardB at hB; simp only [Bool.and_eq_true] at hB; exact hB.1.1)
  obtain ⟨ao, c, rfl⟩ := hv.shape
  obtain ⟨kind, frm, dst, tx, ms⟩ := m
  unfold msgV
  simp only at *
  subst htx
  subst hkd
  go_enter Try.func10, Try.ntmps10
  go_upto_region 1 with (fail)
  have hX0 : At (w.alloc (.cells #[.int .i64 4, .int .i64 frm, .int .i64 dst, .int .i64 p.e.tx, .slice ao ms.length c] 46)) w.heap.size [.int .i64 4, .int .i64 frm, .int .i64 dst, .int .i64 p.e.tx, .slice ao ms.length c] 46 := At.new w _ _
  have hcX := (Chg.refl NoB w).alloc (.cells #[.int .i64 4, .int .i64 frm, .int .i64 dst, .int .i64 p.e.tx, .slice ao ms.length c] 46)
  have hsX : (w.alloc (.cells #[.int .i64 4, .int .i64 frm, .int .i64 dst, .int .i64 p.e.tx, .slice ao ms.length c] 46)).heap.size = w.heap.size + 1 := by simp
  generalize w.alloc (.cells #[.int .i64 4, .int .i64 frm, .int .i64 dst, .int .i64 p.e.tx, .slice ao ms.length c] 46) = wx at *
  have hD := deal_new wx
  have hX := hX0.chg (deal_chg wx) (by simp [NoB])
  have hc := hcX.trans (deal_chg wx) (by simp [NoB])
  have hszx : wx.heap.size = w.heap.size + 1 := hsX
  generalize wx.alloc (.cells #[.slice none 0 0, .int .i64 0, .int .i64 0, .int .i64 0, .int .i64 0, .string ⟨#[]⟩, .bool false, .string ⟨#[]⟩, .bool false, .string ⟨#[]⟩, .int .i64 0, .slice none 0 0, .slice none 0 0, .slice none 0 0, .slice none 0 0, .slice none 0 0, .slice none 0 0, .int .i64 0] 41) = w1 at *
  rw [hszx] at hD
  clear hX0 hcX hsX hszx
  have hlD := hD.lt
  have hlX := hX.lt
  have x0 := hX.cell 0 rfl
  have x1 := hX.cell 1 rfl
  have x2 := hX.cell 2 rfl
  have x3 := hX.cell 3 rfl
  have x4 := hX.cell 4 rfl
  have hck := (Chg.refl NoB w1).alloc (.cells #[.int .i64 2, .int .i64 3, .int .i64 4] 3)
  have hkv : Sees (w1.alloc (.cells #[.int .i64 2, .int .i64 3, .int .i64 4] 3)) cellsI (.slice (some ⟨w1.heap.size, 0, none⟩) 3 3) [2, 3, 4] := sees_at (l := [2, 3, 4]) (At.new w1 _ 3)
  have hcw2 := hc.trans hck (by simp [NoB])
  have hhe := heard_yes bc bm me _ _ (h.no hcw2) ⟨4, frm, dst, p.e.tx, ms⟩ (.slice ao ms.length c) (.slice (some ⟨w1.heap.size, 0, none⟩) 3 3) [2, 3, 4] (hv.no hcw2) hl hkv (by simp) hB
  simp only at hhe
  rw [(h.no hcw2).prs_some] at hhe
  unfold msgV ptr encP at hhe
  simp only at hhe
  go_upto_region 2 with (first | (go_at_call 25; refine hhe.mono ?_; clear hhe; rintro e w2 ⟨rfl, hc2⟩; have hD1 := (hD.chg hck (by simp [NoB])).chg hc2 (by simp [NoB]); have hX1 := (hX.chg hck (by simp [NoB])).chg hc2 (by simp [NoB]); have y1 := fun q : WIn w2 => q.cell (hX1.cell 1 rfl); have hltX := hX1.lt) | fail)
  have h2 := (h.no hcw2).no hc2
  have hcw3 := hcw2.trans hc2 (by simp [NoB])
  have hEH := h2.own p (by simp)
  have hE := hEH.hd
  have e1 := fun q : WIn w2 => q.cell (hE.cell 1 rfl)
  have hlt := hE.lt
  rw [hp] at e1
  have hA := hEH.a
  rw [hao] at hA
  have e3 := fun q : WIn w2 => q.cell (hE.cell 3 rfl)
  rw [hao] at e3
  have hlk := fun q : WIn w2 => set_looked (MapIs.chg hA q.h (by simp [NoB])) hfr
  rw [hin] at hlk
  refine wp_region_in w2 (Chg.refl _ _) (by kernel_rfl) (by kernel_rfl) ?_
  repeat (go_big_quiet_step (fail))
  refine wpQuiet_nil ?_
  rintro w3 ⟨⟨w3', hc3⟩, hh⟩
  change w3 = w3' at hh
  subst w3'
  have hE3 := hE.chg hc3 (by simp [NoB])
  have hX3 := hX1.chg hc3 (by simp [NoB])
  have hD3 := hD1.chg hc3 (by simp [NoB])
  have h3 := h2.no hc3
  have hA3 : SMap w3 ba (setP p.e.aw) := MapIs.chg hA hc3 (by simp [NoB])
  have hcw4 := hcw3.trans hc3 (by simp [NoB])
  clear y1 e1 e3 hlk hA hE hEH hX1 hD1 h2
  go_upto_region 4 with (fail)
  have e3 := hE3.cell 3 rfl
  rw [hao] at e3
  have e3' : w3.drew.cell? ⟨p.b, 3, none⟩ = some (.map (some ba)) := e3
  have x1' : w3.drew.cell? ⟨w.heap.size, 1, none⟩ = some (.int .i64 frm) := hX3.cell 1 rfl
  have hltX := hX3.lt
  have hlt3 := hE3.lt
  go_still_tail 6, (by kernel_rfl)
  change wpList _ _ _ _ _ w3.drew
  refine wpList_drop (hA3.drew) law3 encN_inj Try.underlying59 rfl _ _ rfl rfl frm rfl (key_lit hfr) ?_
  intro w4 hm4 hg4
  have hcd4 : Chg (· = ba) w3 w4 := (((Chg.refl NoB w3).drew).mono (T := (· = ba)) (by simp [NoB])).grown hg4 (by simp)
  change SMap w4 ba (mdel (setP p.e.aw) frm) at hm4
  rw [setP_drop] at hm4
  obtain ⟨h4, hcb4⟩ := h3.awdel hao hm4 hcd4
  have hD4 := hD3.chg hcd4 (fun e => MapIs.ne_at hA3 hD3 e.symm)
  have hX4 := hX3.chg hcd4 (fun e => MapIs.ne_at hA3 hX3 e.symm)
  have hc14 : Chg (· ∈ blocks p) w w4 := (hcw4.mono (T := (· ∈ blocks p)) (by simp [NoB])).trans hcb4 (fun _ _ h => h)
  have hEH4 := h4.own (awE p (dropI p.e.aw frm)) (by simp)
  have hE4 := hEH4.hd
  have x0 := hX4.cell 0 rfl
  have x1 := hX4.cell 1 rfl
  have hlX4 := hX4.lt
  have hlt4 : p.b < w4.heap.size := hE4.lt
  have hs14 := hc14.size
  have hbw : ∀ k ∈ blocks p, k < w.heap.size := (h.own p (by simp)).lt
  have hpw : p.b < w.heap.size := hbw _ (mem_blocks.2 (.inl rfl))
  have hbmw := h.mp.lt
  clear e3' x1' e3 hltX hX3 hD3 hE3 hlt3 hlt hcd4 hcb4 hc3 hc2 hck hkv hcw2 hc hX hD hlD hlX x2 x3 x4
  have hdl : (dropI p.e.aw frm).length ≤ p.e.aw.length := List.length_filter_le _ _
  have hg := giveUp_any bc bm me l1 l2 (awE p (dropI p.e.aw frm)) w4 h4 hti (fun _ => by show p.ao ≠ none; rw [hao]; simp) hml (Nat.le_trans hdl hal) hyl
  have hq : quitN (awE p (dropI p.e.aw frm)).e = sortI (sortI (dropI p.e.aw frm) ++ p.e.yes) := if_pos hp
  rw [hq] at hg
  clear hq
  go_wp2_with (first | (go_at_call 26; refine hg.mono ?_; clear hg; rintro e w5 ⟨v5, rfl, hd5, h5, hc5⟩; obtain ⟨sv, mv, rfl, hM, hI⟩ := id hd5; obtain ⟨a5, n5, k5, rfl⟩ := hM.isSl; obtain ⟨a6, n6, k6, rfl⟩ := hI.isSl; have hD5 := hD4.chg hc5 (fun e => h4.mp.ne_at hD4 e.symm)) | (refine wpList_deal hD5 rfl _ _ rfl rfl (.slice a5 n5 k5) (0) (0) (.slice a6 n6 k6) (2) rfl ⟨_, _, _, rfl⟩ ⟨_, _, _, rfl⟩ ?_; intro w6 hD6 hc6 hs6) | fail)
  have hlD4 := hD4.lt
  refine bodyPost_ret (ret_deal rfl rfl hD6) rfl ⟨_, rfl, hd5.into hlD4 hc6 hs14, h5.apart_at hD5 (by decide) (by decide) (by decide) hc6, ((hc14.mono (T := fun k => k = bm ∨ k ∈ blocks p) (fun _ _ h => .inr h)).trans hc5 (fun _ _ h => .inl h)).trans hc6 (fun j h1 h2 => by omega)⟩
set_option maxRecDepth 100000 in
set_option maxHeartbeats 800000 in
theorem vote_read_more (bc bm : Nat) (me : Int) (l1 l2 : List Ep) (p : Ep) (w : World) (h : CAt w bc bm me (l1 ++ p :: l2)) (m : Mg) (mv : Value) (hv : Sees w cellsI mv m.ms) (hl : m.ms.length ≤ 1099511627776) (ba : Nat) (hao : p.ao = some ba) (hB : heardB me m [2, 3, 4] = true) (htx : m.tx = p.e.tx) (hp : p.e.phase = 4) (hfr : I64 m.frm) (hin : p.e.aw.contains m.frm = true) (hkd : m.kind = 3) (hmo : dropI p.e.aw m.frm ≠ []) :
    Calls Try.prog 10 #[.pointer (some ⟨bc, 0, none⟩), msgV m mv] w fun e w' => ∃ v, e = .returned v ∧ DealIs w' w.heap.size v noDeal ∧ CAt w' bc bm me (l1 ++ awE p (dropI p.e.aw m.frm) :: l2) ∧ Chg (· ∈ blocks p) w w' := by
  obtain ⟨ao, c, rfl⟩ := hv.shape
  obtain ⟨kind, frm, dst, tx, ms⟩ := m
  unfold msgV
  simp only at *
  subst htx
  subst hkd
  go_enter Try.func10, Try.ntmps10
  go_upto_region 1 with (fail)
  have hX0 : At (w.alloc (.cells #[.int .i64 3, .int .i64 frm, .int .i64 dst, .int .i64 p.e.tx, .slice ao ms.length c] 46)) w.heap.size [.int .i64 3, .int .i64 frm, .int .i64 dst, .int .i64 p.e.tx, .slice ao ms.length c] 46 := At.new w _ _
  have hcX := (Chg.refl NoB w).alloc (.cells #[.int .i64 3, .int .i64 frm, .int .i64 dst, .int .i64 p.e.tx, .slice ao ms.length c] 46)
  have hsX : (w.alloc (.cells #[.int .i64 3, .int .i64 frm, .int .i64 dst, .int .i64 p.e.tx, .slice ao ms.length c] 46)).heap.size = w.heap.size + 1 := by simp
  generalize w.alloc (.cells #[.int .i64 3, .int .i64 frm, .int .i64 dst, .int .i64 p.e.tx, .slice ao ms.length c] 46) = wx at *
  have hD := deal_new wx
  have hX := hX0.chg (deal_chg wx) (by simp [NoB])
  have hc := hcX.trans (deal_chg wx) (by simp [NoB])
  have hszx : wx.heap.size = w.heap.size + 1 := hsX
  generalize wx.alloc (.cells #[.slice none 0 0, .int .i64 0, .int .i64 0, .int .i64 0, .int .i64 0, .string ⟨#[]⟩, .bool false, .string ⟨#[]⟩, .bool false, .string ⟨#[]⟩, .int .i64 0, .slice none 0 0, .slice none 0 0, .slice none 0 0, .slice none 0 0, .slice none 0 0, .slice none 0 0, .int .i64 0] 41) = w1 at *
  rw [hszx] at hD
  clear hX0 hcX hsX hszx
  have hlD := hD.lt
  have hlX := hX.lt
  have x0 := hX.cell 0 rfl
  have x1 := hX.cell 1 rfl
  have x2 := hX.cell 2 rfl
  have x3 := hX.cell 3 rfl
  have x4 := hX.cell 4 rfl
  have hck := (Chg.refl NoB w1).alloc (.cells #[.int .i64 2, .int .i64 3, .int .i64 4] 3)
  have hkv : Sees (w1.alloc (.cells #[.int .i64 2, .int .i64 3, .int .i64 4] 3)) cellsI (.slice (some ⟨w1.heap.size, 0, none⟩) 3 3) [2, 3, 4] := sees_at (l := [2, 3, 4]) (At.new w1 _ 3)
  have hcw2 := hc.trans hck (by simp [NoB])
  have hhe := heard_yes bc bm me _ _ (h.no hcw2) ⟨3, frm, dst, p.e.tx, ms⟩ (.slice ao ms.length c) (.slice (some ⟨w1.heap.size, 0, none⟩) 3 3) [2, 3, 4] (hv.no hcw2) hl hkv (by simp) hB
  simp only at hhe
  rw [(h.no hcw2).prs_some] at hhe
  unfold msgV ptr encP at hhe
  simp only at hhe
  go_upto_region 2 with (first | (go_at_call 25; refine hhe.mono ?_; clear hhe; rintro e w2 ⟨rfl, hc2⟩; have hD1 := (hD.chg hck (by simp [NoB])).chg hc2 (by simp [NoB]); have hX1 := (hX.chg hck (by simp [NoB])).chg hc2 (by simp [NoB]); have y1 := fun q : WIn w2 => q.cell (hX1.cell 1 rfl); have hltX := hX1.lt) | fail)
  have h2 := (h.no hcw2).no hc2
  have hcw3 := hcw2.trans hc2 (by simp [NoB])
  have hEH := h2.own p (by simp)
  have hE := hEH.hd
  have e1 := fun q : WIn w2 => q.cell (hE.cell 1 rfl)
  have hlt := hE.lt
  rw [hp] at e1
  have hA := hEH.a
  rw [hao] at hA
  have e3 := fun q : WIn w2 => q.cell (hE.cell 3 rfl)
  rw [hao] at e3
  have hlk := fun q : WIn w2 => set_looked (MapIs.chg hA q.h (by simp [NoB])) hfr
  rw [hin] at hlk
  refine wp_region_in w2 (Chg.refl _ _) (by kernel_rfl) (by kernel_rfl) ?_
  repeat (go_big_quiet_step (fail))
  refine wpQuiet_nil ?_
  rintro w3 ⟨⟨w3', hc3⟩, hh⟩
  change w3 = w3' at hh
  subst w3'
  have hE3 := hE.chg hc3 (by simp [NoB])
  have hX3 := hX1.chg hc3 (by simp [NoB])
  have hD3 := hD1.chg hc3 (by simp [NoB])
  have h3 := h2.no hc3
  have hA3 : SMap w3 ba (setP p.e.aw) := MapIs.chg hA hc3 (by simp [NoB])
  have hcw4 := hcw3.trans hc3 (by simp [NoB])
  clear y1 e1 e3 hlk hA hE hEH hX1 hD1 h2
  go_upto_region 4 with (fail)
  have e3 := hE3.cell 3 rfl
  rw [hao] at e3
  have e3' : w3.drew.cell? ⟨p.b, 3, none⟩ = some (.map (some ba)) := e3
  have x1' : w3.drew.cell? ⟨w.heap.size, 1, none⟩ = some (.int .i64 frm) := hX3.cell 1 rfl
  have hltX := hX3.lt
  have hlt3 := hE3.lt
  go_still_tail 6, (by kernel_rfl)
  change wpList _ _ _ _ _ w3.drew
  refine wpList_drop (hA3.drew) law3 encN_inj Try.underlying59 rfl _ _ rfl rfl frm rfl (key_lit hfr) ?_
  intro w4 hm4 hg4
  have hcd4 : Chg (· = ba) w3 w4 := (((Chg.refl NoB w3).drew).mono (T := (· = ba)) (by simp [NoB])).grown hg4 (by simp)
  change SMap w4 ba (mdel (setP p.e.aw) frm) at hm4
  rw [setP_drop] at hm4
  obtain ⟨h4, hcb4⟩ := h3.awdel hao hm4 hcd4
  have hD4 := hD3.chg hcd4 (fun e => MapIs.ne_at hA3 hD3 e.symm)
  have hX4 := hX3.chg hcd4 (fun e => MapIs.ne_at hA3 hX3 e.symm)
  have hc14 : Chg (· ∈ blocks p) w w4 := (hcw4.mono (T := (· ∈ blocks p)) (by simp [NoB])).trans hcb4 (fun _ _ h => h)
  have hEH4 := h4.own (awE p (dropI p.e.aw frm)) (by simp)
  have hE4 := hEH4.hd
  have x0 := hX4.cell 0 rfl
  have x1 := hX4.cell 1 rfl
  have hlX4 := hX4.lt
  have hlt4 : p.b < w4.heap.size := hE4.lt
  have hs14 := hc14.size
  have hbw : ∀ k ∈ blocks p, k < w.heap.size := (h.own p (by simp)).lt
  have hpw : p.b < w.heap.size := hbw _ (mem_blocks.2 (.inl rfl))
  have hbmw := h.mp.lt
  clear e3' x1' e3 hltX hX3 hD3 hE3 hlt3 hlt hcd4 hcb4 hc3 hc2 hck hkv hcw2 hc hX hD hlD hlX x2 x3 x4
  have hlen := hm4.len (ty := 3) Try.underlying59
  have hln : (setP (dropI p.e.aw frm)).length = (dropI p.e.aw frm).length := by simp [setP]
  rw [hln] at hlen
  clear hln
  have e3 : w4.cell? ⟨p.b, 3, none⟩ = some (.map (some ba)) := by rw [← hao]; exact hE4.cell 3 rfl
  have hgt : decide ((0 : Int) < ((dropI p.e.aw frm).length : Int)) = true := by
    have : (dropI p.e.aw frm).length ≠ 0 := fun e => hmo (List.eq_nil_of_length_eq_zero e)
    simp
    omega
  have hgt2 : decide (0 < (dropI p.e.aw frm).length) = true := by simpa using hgt
  go_wp2_with (first | (refine wpList_deal hD4 rfl _ _ rfl rfl (.slice none 0 0) (0) (0) (.slice none 0 0) (0) rfl IsSl.nil IsSl.nil ?_; intro w5 hD5 hc5 hs5) | fail)
  exact bodyPost_ret (ret_deal rfl rfl hD5) rfl ⟨_, rfl, DealIs.zero _ _, h4.apart_at hD4 (by decide) (by decide) (by decide) hc5, hc14.trans hc5 (fun j h1 h2 => by omega)⟩
set_option maxRecDepth 100000 in
set_option maxHeartbeats 800000 in
theorem vote_read_empty (bc bm : Nat) (me : Int) (l1 l2 : List Ep) (p : Ep) (w : World) (h : CAt w bc bm me (l1 ++ p :: l2)) (m : Mg) (mv : Value) (hv : Sees w cellsI mv m.ms) (hl : m.ms.length ≤ 1099511627776) (ba : Nat) (hao : p.ao = some ba) (hB : heardB me m [2, 3, 4] = true) (htx : m.tx = p.e.tx) (hp : p.e.phase = 4) (hfr : I64 m.frm) (hin : p.e.aw.contains m.frm = true) (hkd : m.kind = 3) (hmo : dropI p.e.aw m.frm = []) (hye : p.e.yes = []) :
    Calls Try.prog 10 #[.pointer (some ⟨bc, 0, none⟩), msgV m mv] w fun e w' => ∃ v, e = .returned v ∧ DealIs w' w.heap.size v ⟨[], 0, 0, [], 1⟩ ∧ CAt w' bc bm me (l1 ++ l2) ∧ Chg (fun k => k = bm ∨ k ∈ blocks p) w w' := by
  have hti := mayM_tx (m := m) (by unfold heardB at hB; simp only [Bool.and_eq_true] at hB; exact hB.1.1)
  obtain ⟨ao, c, rfl⟩ := hv.shape
  obtain ⟨kind, frm, dst, tx, ms⟩ := m
  unfold msgV
  simp only at *
  subst htx
  subst hkd
  go_enter Try.func10, Try.ntmps10
  go_upto_region 1 with (fail)
  have hX0 : At (w.alloc (.cells #[.int .i64 3, .int .i64 frm, .int .i64 dst, .int .i64 p.e.tx, .slice ao ms.length c] 46)) w.heap.size [.int .i64 3, .int .i64 frm, .int .i64 dst, .int .i64 p.e.tx, .slice ao ms.length c] 46 := At.new w _ _
  have hcX := (Chg.refl NoB w).alloc (.cells #[.int .i64 3, .int .i64 frm, .int .i64 dst, .int .i64 p.e.tx, .slice ao ms.length c] 46)
  have hsX : (w.alloc (.cells #[.int .i64 3, .int .i64 frm, .int .i64 dst, .int .i64 p.e.tx, .slice ao ms.length c] 46)).heap.size = w.heap.size + 1 := by simp
  generalize w.alloc (.cells #[.int .i64 3, .int .i64 frm, .int .i64 dst, .int .i64 p.e.tx, .slice ao ms.length c] 46) = wx at *
  have hD := deal_new wx
  have hX := hX0.chg (deal_chg wx) (by simp [NoB])
  have hc := hcX.trans (deal_chg wx) (by simp [NoB])
  have hszx : wx.heap.size = w.heap.size + 1 := hsX
  generalize wx.alloc (.cells #[.slice none 0 0, .int .i64 0, .int .i64 0, .int .i64 0, .int .i64 0, .string ⟨#[]⟩, .bool false, .string ⟨#[]⟩, .bool false, .string ⟨#[]⟩, .int .i64 0, .slice none 0 0, .slice none 0 0, .slice none 0 0, .slice none 0 0, .slice none 0 0, .slice none 0 0, .int .i64 0] 41) = w1 at *
  rw [hszx] at hD
  clear hX0 hcX hsX hszx
  have hlD := hD.lt
  have hlX := hX.lt
  have x0 := hX.cell 0 rfl
  have x1 := hX.cell 1 rfl
  have x2 := hX.cell 2 rfl
  have x3 := hX.cell 3 rfl
  have x4 := hX.cell 4 rfl
  have hck := (Chg.refl NoB w1).alloc (.cells #[.int .i64 2, .int .i64 3, .int .i64 4] 3)
  have hkv : Sees (w1.alloc (.cells #[.int .i64 2, .int .i64 3, .int .i64 4] 3)) cellsI (.slice (some ⟨w1.heap.size, 0, none⟩) 3 3) [2, 3, 4] := sees_at (l := [2, 3, 4]) (At.new w1 _ 3)
  have hcw2 := hc.trans hck (by simp [NoB])
  have hhe := heard_yes bc bm me _ _ (h.no hcw2) ⟨3, frm, dst, p.e.tx, ms⟩ (.slice ao ms.length c) (.slice (some ⟨w1.heap.size, 0, none⟩) 3 3) [2, 3, 4] (hv.no hcw2) hl hkv (by simp) hB
  simp only at hhe
  rw [(h.no hcw2).prs_some] at hhe
  unfold msgV ptr encP at hhe
  simp only at hhe
  go_upto_region 2 with (first | (go_at_call 25; refine hhe.mono ?_; clear hhe; rintro e w2 ⟨rfl, hc2⟩; have hD1 := (hD.chg hck (by simp [NoB])).chg hc2 (by simp [NoB]); have hX1 := (hX.chg hck (by simp [NoB])).chg hc2 (by simp [NoB]); have y1 := fun q : WIn w2 => q.cell (hX1.cell 1 rfl); have hltX := hX1.lt) | fail)
  have h2 := (h.no hcw2).no hc2
  have hcw3 := hcw2.trans hc2 (by simp [NoB])
  have hEH := h2.own p (by simp)
  have hE := hEH.hd
  have e1 := fun q : WIn w2 => q.cell (hE.cell 1 rfl)
  have hlt := hE.lt
  rw [hp] at e1
  have hA := hEH.a
  rw [hao] at hA
  have e3 := fun q : WIn w2 => q.cell (hE.cell 3 rfl)
  rw [hao] at e3
  have hlk := fun q : WIn w2 => set_looked (MapIs.chg hA q.h (by simp [NoB])) hfr
  rw [hin] at hlk
  refine wp_region_in w2 (Chg.refl _ _) (by kernel_rfl) (by kernel_rfl) ?_
  repeat (go_big_quiet_step (fail))
  refine wpQuiet_nil ?_
  rintro w3 ⟨⟨w3', hc3⟩, hh⟩
  change w3 = w3' at hh
  subst w3'
  have hE3 := hE.chg hc3 (by simp [NoB])
  have hX3 := hX1.chg hc3 (by simp [NoB])
  have hD3 := hD1.chg hc3 (by simp [NoB])
  have h3 := h2.no hc3
  have hA3 : SMap w3 ba (setP p.e.aw) := MapIs.chg hA hc3 (by simp [NoB])
  have hcw4 := hcw3.trans hc3 (by simp [NoB])
  clear y1 e1 e3 hlk hA hE hEH hX1 hD1 h2
  go_upto_region 4 with (fail)
  have e3 := hE3.cell 3 rfl
  rw [hao] at e3
  have e3' : w3.drew.cell? ⟨p.b, 3, none⟩ = some (.map (some ba)) := e3
  have x1' : w3.drew.cell? ⟨w.heap.size, 1, none⟩ = some (.int .i64 frm) := hX3.cell 1 rfl
  have hltX := hX3.lt
  have hlt3 := hE3.lt
  go_still_tail 6, (by kernel_rfl)
  change wpList _ _ _ _ _ w3.drew
  refine wpList_drop (hA3.drew) law3 encN_inj Try.underlying59 rfl _ _ rfl rfl frm rfl (key_lit hfr) ?_
  intro w4 hm4 hg4
  have hcd4 : Chg (· = ba) w3 w4 := (((Chg.refl NoB w3).drew).mono (T := (· = ba)) (by simp [NoB])).grown hg4 (by simp)
  change SMap w4 ba (mdel (setP p.e.aw) frm) at hm4
  rw [setP_drop] at hm4
  obtain ⟨h4, hcb4⟩ := h3.awdel hao hm4 hcd4
  have hD4 := hD3.chg hcd4 (fun e => MapIs.ne_at hA3 hD3 e.symm)
  have hX4 := hX3.chg hcd4 (fun e => MapIs.ne_at hA3 hX3 e.symm)
  have hc14 : Chg (· ∈ blocks p) w w4 := (hcw4.mono (T := (· ∈ blocks p)) (by simp [NoB])).trans hcb4 (fun _ _ h => h)
  have hEH4 := h4.own (awE p (dropI p.e.aw frm)) (by simp)
  have hE4 := hEH4.hd
  have x0 := hX4.cell 0 rfl
  have x1 := hX4.cell 1 rfl
  have hlX4 := hX4.lt
  have hlt4 : p.b < w4.heap.size := hE4.lt
  have hs14 := hc14.size
  have hbw : ∀ k ∈ blocks p, k < w.heap.size := (h.own p (by simp)).lt
  have hpw : p.b < w.heap.size := hbw _ (mem_blocks.2 (.inl rfl))
  have hbmw := h.mp.lt
  clear e3' x1' e3 hltX hX3 hD3 hE3 hlt3 hlt hcd4 hcb4 hc3 hc2 hck hkv hcw2 hc hX hD hlD hlX x2 x3 x4
  have hlen := hm4.len (ty := 3) Try.underlying59
  have hln : (setP (dropI p.e.aw frm)).length = (dropI p.e.aw frm).length := by simp [setP]
  rw [hln] at hlen
  clear hln
  have e3 : w4.cell? ⟨p.b, 3, none⟩ = some (.map (some ba)) := by rw [← hao]; exact hE4.cell 3 rfl
  rw [hmo] at hlen
  obtain ⟨ay, ky, hyv, _⟩ := hEH4.y.shape
  change p.yv = .slice ay p.e.yes.length ky at hyv
  have e4 : w4.cell? ⟨p.b, 4, none⟩ = some (.slice ay p.e.yes.length ky) := by rw [← hyv]; exact hE4.cell 4 rfl
  rw [hye] at e4
  go_upto_region 14 with (fail)
  have c1 := h4.hd.cell 1 rfl
  have e0 := hE4.cell 0 rfl
  have c1' : w4.drew.cell? ⟨bc, 1, none⟩ = some (.map (some bm)) := c1
  have e0' : w4.drew.cell? ⟨p.b, 0, none⟩ = some (.int .i64 p.e.tx) := e0
  have hlc := h4.hd.lt
  go_still_tail 8, (by kernel_rfl)
  change wpList _ _ _ _ _ w4.drew
  refine wpList_drop (h4.mp.drew) law3 encN_inj Try.underlying54 rfl _ _ rfl rfl p.e.tx rfl (key_lit hti) ?_
  intro w5 hm5 hg5
  have hcd : Chg NoB w4 w4.drew := (Chg.refl NoB w4).drew
  obtain ⟨h5, hc5⟩ := (h4.no hcd).dropped (p := awE p (dropI p.e.aw frm)) hm5 hg5
  have hc45 : Chg (· = bm) w4 w5 := (hcd.mono (T := (· = bm)) (by simp [NoB])).trans hc5 (fun _ _ h => h)
  have hD5 := hD4.chg hc45 (fun e => h4.mp.ne_at hD4 e.symm)
  clear c1 c1' e0' e0 hlen e3 e4
  go_wp2_with (first | (refine wpList_deal hD5 rfl _ _ rfl rfl (.slice none 0 0) (0) (0) (.slice none 0 0) (1) rfl IsSl.nil IsSl.nil ?_; intro w6 hD6 hc6 hs6) | fail)
  exact bodyPost_ret (ret_deal rfl rfl hD6) rfl ⟨_, rfl, DealIs.res _ _ _, h5.apart_at hD5 (by decide) (by decide) (by decide) hc6, ((hc14.mono (T := fun k => k = bm ∨ k ∈ blocks p) (fun _ _ h => .inr h)).trans hc45 (fun _ _ h => .inl h)).trans hc6 (fun j h1 h2 => by omega)⟩
end Go.Proofs.Ythpnhndligblaaa
