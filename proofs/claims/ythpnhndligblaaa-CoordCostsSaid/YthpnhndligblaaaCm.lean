/- The coordinator: a vote of yes. Conditions: numbers within int. -/
import Derived.Test.YthpnhndligblaaaCk
namespace Go.Proofs.Ythpnhndligblaaa
open Go.RowKit Go.Maps Go.BigFrame
def yesE (p : Ep) (yes : List Int) (yv : Value) : Ep := ⟨{ p.e with yes := yes }, p.b, p.mv, p.ao, yv⟩
theorem CAt.putYes {w w3 : World} {bc bm : Nat} {me : Int} {l1 l2 : List Ep} {p : Ep} {v' : Value} {yes' : List Int} (h : CAt w bc bm me (l1 ++ p :: l2)) (hc3 : Chg (fun b => p.yv.ownBlock = some b) w w3) (hr3 : IRow w3 0 v' yes') (hnew : ∀ g, v'.ownBlock = some g → p.yv.ownBlock = some g ∨ w.heap.size ≤ g) :
    CAt (w3.setCell ⟨p.b, 4, none⟩ v') bc bm me (l1 ++ yesE p yes' v' :: l2) ∧ Chg (· ∈ blocks p) w (w3.setCell ⟨p.b, 4, none⟩ v') ∧ (∀ k ∈ blocks (yesE p yes' v'), k ∈ blocks p ∨ w.heap.size ≤ k) := by
  have hEH := h.own p (by simp)
  have hmy := my_of_nd h.nd
  have hE3 := hEH.hd.chg hc3 (fun e => hEH.y.apart_at hEH.hd (by decide) e)
  have hfin : EHas (w3.setCell ⟨p.b, 4, none⟩ v') (yesE p yes' v') := by
    refine EHas.put hE3 4 _ rfl rfl ?_ hr3 ?_
    · exact hEH.m.chg hc3 (fun g hg e => hmy g hg e)
    · refine hEH.a.chg hc3 (fun g hg e => ?_)
      have := hEH.a
      rw [hg] at this
      exact hEH.y.apart_map this e
  have hcf : Chg (· ∈ blocks p) w (w3.setCell ⟨p.b, 4, none⟩ v') := (hc3.mono (T := (· ∈ blocks p)) (fun k _ hk => mem_blocks.2 (.inr (.inr (.inl hk))))).setCell (p := ⟨p.b, 4, none⟩) (fun _ => mem_blocks.2 (.inl rfl)) _
  have hbl : ∀ k ∈ blocks (yesE p yes' v'), k ∈ blocks p ∨ w.heap.size ≤ k := by
    intro k hk
    rcases mem_blocks.1 hk with hk | hk | hk | hk
    · exact .inl (mem_blocks.2 (.inl hk))
    · exact .inl (mem_blocks.2 (.inr (.inl hk)))
    · rcases hnew k hk with h1 | h1
      · exact .inl (mem_blocks.2 (.inr (.inr (.inl h1))))
      · exact .inr h1
    · exact .inl (mem_blocks.2 (.inr (.inr (.inr hk))))
  refine ⟨h.step hcf hfin rfl rfl hbl (hfin.nd ?_), hcf, hbl⟩
  intro g hg hy
  rcases hnew g hy with h1 | h1
  · exact hmy g hg h1
  · have := (hEH.m.ge g hg).2
    omega
set_option maxRecDepth 100000 in
set_option maxHeartbeats 800000 in
theorem vote_yes_more (bc bm : Nat) (me : Int) (l1 l2 : List Ep) (p : Ep) (w : World) (h : CAt w bc bm me (l1 ++ p :: l2)) (m : Mg) (mv : Value) (hv : Sees w cellsI mv m.ms) (hl : m.ms.length ≤ 1099511627776) (ba : Nat) (hao : p.ao = some ba) (hB : heardB me m [2, 3, 4] = true) (htx : m.tx = p.e.tx) (hp : p.e.phase = 4) (hfr : I64 m.frm) (hin : p.e.aw.contains m.frm = true) (hkd : m.kind = 2) (hyp0 : p.e.yes.Pairwise (· < ·)) (hyL0 : p.e.yes.length ≤ 1099511627775) (hmo : dropI p.e.aw m.frm ≠ []) :
    Calls Try.prog 10 #[.pointer (some ⟨bc, 0, none⟩), msgV m mv] w fun e w' => ∃ v, e = .returned v ∧ (∀ B, DealIs w' B v noDeal) ∧ ∃ p', p'.e = { p.e with aw := dropI p.e.aw m.frm, yes := insI p.e.yes (p.e.yes.countP (· < m.frm)) m.frm } ∧ p'.ao ≠ none ∧ CAt w' bc bm me (l1 ++ p' :: l2) ∧ Chg (· ∈ blocks p) w w' ∧ (∀ k ∈ blocks p', k ∈ blocks p ∨ w.heap.size ≤ k) := by
  obtain ⟨ao, c, rfl⟩ := hv.shape
  obtain ⟨kind, frm, dst, tx, ms⟩ := m
  unfold msgV
  simp only at *
  subst htx
  subst hkd
  go_enter Try.func10, Try.ntmps10
  go_upto_region 1 with (fail)
  have hX0 : At (w.alloc (.cells #[.int .i64 2, .int .i64 frm, .int .i64 dst, .int .i64 p.e.tx, .slice ao ms.length c] 46)) w.heap.size [.int .i64 2, .int .i64 frm, .int .i64 dst, .int .i64 p.e.tx, .slice ao ms.length c] 46 := At.new w _ _
  have hcX := (Chg.refl NoB w).alloc (.cells #[.int .i64 2, .int .i64 frm, .int .i64 dst, .int .i64 p.e.tx, .slice ao ms.length c] 46)
  have hsX : (w.alloc (.cells #[.int .i64 2, .int .i64 frm, .int .i64 dst, .int .i64 p.e.tx, .slice ao ms.length c] 46)).heap.size = w.heap.size + 1 := by simp
  generalize w.alloc (.cells #[.int .i64 2, .int .i64 frm, .int .i64 dst, .int .i64 p.e.tx, .slice ao ms.length c] 46) = wx at *
  have hD := deal_new wx
  have hX := hX0.chg (deal_chg wx) (by simp [NoB])
  have hc := hcX.trans (deal_chg wx) (by simp [NoB])
  have hszx : wx.heap.size = w.heap.size + 1 := hsX
  generalize wx.alloc (.cells #[.slice none 0 0, .int .i64 0, .int .i64 0, .int .i64 0, .int .i64 0, .string ⟨#[]⟩, .bool false, .string ⟨#[]⟩, .bool false, .string ⟨#[]⟩, .int .i64 0, .slice none 0 0, .slice none 0 0, .slice none 0 0, .slice none 0 0, .slice none 0 0, .slice none 0 0, .int .i64 0] 41) = w1 at *
  rw [hszx] at hD
  clear hX0 hcX hsX hszx
  have hlD := hD.lt
  have hlX := hX.lt
  have x0 := hX.cell 0 rfl
  have x1 := hX.cell 1 rfl
  have x2 := hX.cell 2 rfl
  have x3 := hX.cell 3 rfl
  have x4 := hX.cell 4 rfl
  have hck := (Chg.refl NoB w1).alloc (.cells #[.int .i64 2, .int .i64 3, .int .i64 4] 3)
  have hkv : Sees (w1.alloc (.cells #[.int .i64 2, .int .i64 3, .int .i64 4] 3)) cellsI (.slice (some ⟨w1.heap.size, 0, none⟩) 3 3) [2, 3, 4] := sees_at (l := [2, 3, 4]) (At.new w1 _ 3)
  have hcw2 := hc.trans hck (by simp [NoB])
  have hhe := heard_yes bc bm me _ _ (h.no hcw2) ⟨2, frm, dst, p.e.tx, ms⟩ (.slice ao ms.length c) (.slice (some ⟨w1.heap.size, 0, none⟩) 3 3) [2, 3, 4] (hv.no hcw2) hl hkv (by simp) hB
  simp only at hhe
  rw [(h.no hcw2).prs_some] at hhe
  unfold msgV ptr encP at hhe
  simp only at hhe
  go_upto_region 2 with (first | (go_at_call 25; refine hhe.mono ?_; clear hhe; rintro e w2 ⟨rfl, hc2⟩; have hD1 := (hD.chg hck (by simp [NoB])).chg hc2 (by simp [NoB]); have hX1 := (hX.chg hck (by simp [NoB])).chg hc2 (by simp [NoB]); have y1 := fun q : WIn w2 => q.cell (hX1.cell 1 rfl); have hltX := hX1.lt) | fail)
  have h2 := (h.no hcw2).no hc2
  have hcw3 := hcw2.trans hc2 (by simp [NoB])
  have hEH := h2.own p (by simp)
  have hE := hEH.hd
  have e1 := fun q : WIn w2 => q.cell (hE.cell 1 rfl)
  have hlt := hE.lt
  rw [hp] at e1
  have hA := hEH.a
  rw [hao] at hA
  have e3 := fun q : WIn w2 => q.cell (hE.cell 3 rfl)
  rw [hao] at e3
  have hlk := fun q : WIn w2 => set_looked (MapIs.chg hA q.h (by simp [NoB])) hfr
  rw [hin] at hlk
  refine wp_region_in w2 (Chg.refl _ _) (by kernel_rfl) (by kernel_rfl) ?_
  repeat (go_big_quiet_step (fail))
  refine wpQuiet_nil ?_
  rintro w3 ⟨⟨w3', hc3⟩, hh⟩
  change w3 = w3' at hh
  subst w3'
  have hE3 := hE.chg hc3 (by simp [NoB])
  have hX3 := hX1.chg hc3 (by simp [NoB])
  have hD3 := hD1.chg hc3 (by simp [NoB])
  have h3 := h2.no hc3
  have hA3 : SMap w3 ba (setP p.e.aw) := MapIs.chg hA hc3 (by simp [NoB])
  have hcw4 := hcw3.trans hc3 (by simp [NoB])
  clear y1 e1 e3 hlk hA hE hEH hX1 hD1 h2
  go_upto_region 4 with (fail)
  have e3 := hE3.cell 3 rfl
  rw [hao] at e3
  have e3' : w3.drew.cell? ⟨p.b, 3, none⟩ = some (.map (some ba)) := e3
  have x1' : w3.drew.cell? ⟨w.heap.size, 1, none⟩ = some (.int .i64 frm) := hX3.cell 1 rfl
  have hltX := hX3.lt
  have hlt3 := hE3.lt
  go_still_tail 6, (by kernel_rfl)
  change wpList _ _ _ _ _ w3.drew
  refine wpList_drop (hA3.drew) law3 encN_inj Try.underlying59 rfl _ _ rfl rfl frm rfl (key_lit hfr) ?_
  intro w4 hm4 hg4
  have hcd4 : Chg (· = ba) w3 w4 := (((Chg.refl NoB w3).drew).mono (T := (· = ba)) (by simp [NoB])).grown hg4 (by simp)
  change SMap w4 ba (mdel (setP p.e.aw) frm) at hm4
  rw [setP_drop] at hm4
  obtain ⟨h4, hcb4⟩ := h3.awdel hao hm4 hcd4
  have hD4 := hD3.chg hcd4 (fun e => MapIs.ne_at hA3 hD3 e.symm)
  have hX4 := hX3.chg hcd4 (fun e => MapIs.ne_at hA3 hX3 e.symm)
  have hc14 : Chg (· ∈ blocks p) w w4 := (hcw4.mono (T := (· ∈ blocks p)) (by simp [NoB])).trans hcb4 (fun _ _ h => h)
  have hEH4 := h4.own (awE p (dropI p.e.aw frm)) (by simp)
  have hE4 := hEH4.hd
  have x0 := hX4.cell 0 rfl
  have x1 := hX4.cell 1 rfl
  have hlX4 := hX4.lt
  have hlt4 : p.b < w4.heap.size := hE4.lt
  have hs14 := hc14.size
  have hbw : ∀ k ∈ blocks p, k < w.heap.size := (h.own p (by simp)).lt
  have hpw : p.b < w.heap.size := hbw _ (mem_blocks.2 (.inl rfl))
  have hbmw := h.mp.lt
  clear e3' x1' e3 hltX hX3 hD3 hE3 hlt3 hlt hcd4 hcb4 hc3 hc2 hck hkv hcw2 hc hX hD hlD hlX x2 x3 x4
  have hbs := fun q : WIn w4 => bsearch_any 0 p.yv p.e.yes frm q.w (hEH4.y.chg q.h (by simp [NoB])) (by omega) (pw_le hyp0)
  obtain ⟨ay, ky, hyv, _⟩ := hEH4.y.shape
  change p.yv = .slice ay p.e.yes.length ky at hyv
  have e4 := fun q : WIn w4 => show q.w.cell? ⟨p.b, 4, none⟩ = some (.slice ay p.e.yes.length ky) by rw [← hyv]; exact q.cell (hE4.cell 4 rfl)
  have x1q := fun q : WIn w4 => q.cell (hX4.cell 1 rfl)
  rw [hyv] at hbs
  go_upto_region 9 with (fail)
  refine wp_region_in w4 (Chg.refl _ _) (by kernel_rfl) (by kernel_rfl) ?_
  repeat (go_big_quiet_step (exact Calls.in_of (hbs _)))
  refine wpQuiet_nil ?_
  rintro w5 ⟨⟨w5', hc45⟩, hh⟩
  change w5 = w5' at hh
  subst w5'
  have hEH5 := hEH4.chg hc45 (by simp [NoB])
  have h5 := h4.no hc45
  have hX5 := hX4.chg hc45 (by simp [NoB])
  have hD5 := hD4.chg hc45 (by simp [NoB])
  have hE5 := hEH5.hd
  have hs45 := hc45.size
  have hlt5 : p.b < w5.heap.size := hE5.lt
  have hlX5 := hX5.lt
  have hca : Chg NoB w5 ((w5.alloc (.cells #[.int .i64 frm] 3)).drew) := ((Chg.refl NoB w5).alloc _).drew
  have e4w : w5.cell? ⟨p.b, 4, none⟩ = some (.slice ay p.e.yes.length ky) := by rw [← hyv]; exact hE5.cell 4 rfl
  have x1w : w5.cell? ⟨w.heap.size, 1, none⟩ = some (.int .i64 frm) := hX5.cell 1 rfl
  have e4d := S1 e4w ((Chg.refl NoB w5).drew)
  have x1d := S1 x1w ((Chg.refl NoB w5).drew)
  have e4a := S1 e4w hca
  have x1a := S1 x1w hca
  have hEa := hE5.chg hca (by simp [NoB])
  have hcle : p.e.yes.countP (· < frm) ≤ p.e.yes.length := List.countP_le_length
  have hins := insert_any 0 w5.heap.size p.yv p.e.yes (p.e.yes.countP (· < frm)) frm ((w5.alloc (.cells #[.int .i64 frm] 3)).drew) (hEH5.y.chg hca (by simp [NoB])) (by omega) hcle ((At.new w5 [.int .i64 frm] 3).drew) (fun e => by have := (hEH5.y.ge _ e).2; exact absurd this (Nat.lt_irrefl _)) (Nat.zero_le _)
  rw [hyv] at hins
  generalize hC : p.e.yes.countP (· < frm) = C at *
  have hyb : ∀ g, (Value.slice ay p.e.yes.length ky).ownBlock = some g → g ≠ p.b := fun g hg e => by subst e; rw [← hyv] at hg; exact hEH5.y.apart_at hE5 (by decide) hg
  go_upto_region 10 with (fail)
  go_region_with (first | (go_at_call 22; refine hins.mono ?_; clear hins; rintro e w6 ⟨v', rfl, hr6, hc6, hb6⟩; obtain ⟨a6, n6, k6, rfl⟩ := hr6.isSl; have hE6 := hEa.chg hc6 (fun e => hyb _ e rfl); have e46 : w6.cell? ⟨p.b, 4, none⟩ = some (.slice ay p.e.yes.length ky) := (by rw [← hyv]; exact hE6.cell 4 rfl); have f46 : w6.frozen? ⟨p.b, 4, none⟩ = false := hE6.frozen 4; have hlt6 : p.b < w6.heap.size := hE6.lt) | fail)
  all_goals
    obtain ⟨ay2, ky2, hyv2, _⟩ := hr6.shape
    simp only [Value.slice.injEq] at hyv2
    obtain ⟨ha6, hn6, hk6⟩ := hyv2
    subst hn6
    subst ay2
    subst ky2
    rw [← hyv] at hc6 hb6
    have hc56 : Chg (fun b => (awE p (dropI p.e.aw frm)).yv.ownBlock = some b) w5 w6 := (hca.mono (T := fun b => (awE p (dropI p.e.aw frm)).yv.ownBlock = some b) (by simp [NoB])).trans hc6 (fun _ _ h => h)
    obtain ⟨h7, hc7, hbl7⟩ := h5.putYes (v' := .slice a6 (insI p.e.yes C frm).length k6) hc56 hr6 (fun g hg => (hb6 g hg).imp id (fun h => by simp [World.drew] at h; omega))
    change CAt (w6.setCell ⟨p.b, 4, none⟩ (.slice a6 (insI p.e.yes C frm).length k6)) _ _ _ _ at h7
    change Chg _ w5 (w6.setCell ⟨p.b, 4, none⟩ (.slice a6 (insI p.e.yes C frm).length k6)) at hc7
    have hD7 := hD5.chg hc7 (hEH5.ne_at hD5 (by decide) (by decide))
    generalize w6.setCell ⟨p.b, 4, none⟩ (.slice a6 (insI p.e.yes C frm).length k6) = w7 at *
    have hEH7 := h7.own (yesE (awE p (dropI p.e.aw frm)) (insI p.e.yes C frm) (.slice a6 (insI p.e.yes C frm).length k6)) (by simp)
    have hs7 := hEH7.a
    change AwIs w7 p.ao (dropI p.e.aw frm) at hs7
    rw [hao] at hs7
    have hlen := MapIs.len (ty := 3) (show SMap w7 ba (setP (dropI p.e.aw frm)) from hs7) Try.underlying59
    have hln : (setP (dropI p.e.aw frm)).length = (dropI p.e.aw frm).length := by simp [setP]
    rw [hln] at hlen
    clear hln
    have e3 : w7.cell? ⟨p.b, 3, none⟩ = some (.map (some ba)) := by rw [← hao]; exact hEH7.hd.cell 3 rfl
    have hlt7 : p.b < w7.heap.size := hEH7.hd.lt
    have hC0 := Lib.hid hC
    clear hC hyv hyb e4 x1q e4d x1d e4w x1w e4a x1a e46 f46 hE6 hEa
    have hgt : decide ((0 : Int) < ((dropI p.e.aw frm).length : Int)) = true := by
      have : (dropI p.e.aw frm).length ≠ 0 := fun e => hmo (List.eq_nil_of_length_eq_zero e)
      simp
      omega
    have hgt2 : decide (0 < (dropI p.e.aw frm).length) = true := by simpa using hgt
    go_wp2_with (first | (refine wpList_deal hD7 rfl _ _ rfl rfl (.slice none 0 0) (0) (0) (.slice none 0 0) (0) rfl IsSl.nil IsSl.nil ?_; intro w8 hD8 hc8 hs8) | fail)
    refine bodyPost_ret (ret_deal rfl rfl hD8) rfl ⟨_, rfl, fun _ => DealIs.zero _ _, yesE (awE p (dropI p.e.aw frm)) (insI p.e.yes C frm) (.slice a6 (insI p.e.yes C frm).length k6), (by rw [← hC0.out]; rfl), (fun e => by rw [show (yesE (awE p (dropI p.e.aw frm)) (insI p.e.yes C frm) (.slice a6 (insI p.e.yes C frm).length k6)).ao = p.ao from rfl, hao] at e; cases e), h7.apart_at hD7 (by decide) (by decide) (by decide) hc8, ((hc14.trans hc45 (by simp [NoB])).trans hc7 (fun _ _ h => h)).trans hc8 (fun j h1 h2 => by omega), fun k hk => ?_⟩
    rcases hbl7 k hk with h | h
    · exact .inl h
    · exact .inr (by omega)
set_option maxRecDepth 100000 in
set_option maxHeartbeats 1600000 in
theorem vote_yes_last (bc bm : Nat) (me : Int) (l1 l2 : List Ep) (p : Ep) (w : World) (h : CAt w bc bm me (l1 ++ p :: l2)) (m : Mg) (mv : Value) (hv : Sees w cellsI mv m.ms) (hl : m.ms.length ≤ 1099511627776) (ba : Nat) (hao : p.ao = some ba) (hB : heardB me m [2, 3, 4] = true) (htx : m.tx = p.e.tx) (hp : p.e.phase = 4) (hfr : I64 m.frm) (hin : p.e.aw.contains m.frm = true) (hkd : m.kind = 2) (hyp0 : p.e.yes.Pairwise (· < ·)) (hyL0 : p.e.yes.length ≤ 1099511627775) (hmo : dropI p.e.aw m.frm = []) (hyp : (insI p.e.yes (p.e.yes.countP (· < m.frm)) m.frm).Pairwise (· < ·)) (hyi : ∀ n ∈ insI p.e.yes (p.e.yes.countP (· < m.frm)) m.frm, 0 ≤ n ∧ n < 8) :
    Calls Try.prog 10 #[.pointer (some ⟨bc, 0, none⟩), msgV m mv] w fun e w' => ∃ v, e = .returned v ∧ ∃ p' B, w.heap.size ≤ B ∧ (∀ k ∈ blocks p', k < B) ∧ DealIs w' B v ⟨[], 9, p.e.tx, insI p.e.yes (p.e.yes.countP (· < m.frm)) m.frm, 0⟩ ∧ p'.e = { p.e with phase := 5, aw := insI p.e.yes (p.e.yes.countP (· < m.frm)) m.frm, yes := insI p.e.yes (p.e.yes.countP (· < m.frm)) m.frm } ∧ p'.ao ≠ none ∧ CAt w' bc bm me (l1 ++ p' :: l2) ∧ Chg (· ∈ blocks p) w w' ∧ (∀ k ∈ blocks p', k ∈ blocks p ∨ w.heap.size ≤ k) := by
  obtain ⟨ao, c, rfl⟩ := hv.shape
  obtain ⟨kind, frm, dst, tx, ms⟩ := m
  unfold msgV
  simp only at *
  subst htx
  subst hkd
  go_enter Try.func10, Try.ntmps10
  go_upto_region 1 with (fail)
  have hX0 : At (w.alloc (.cells #[.int .i64 2, .int .i64 frm, .int .i64 dst, .int .i64 p.e.tx, .slice ao ms.length c] 46)) w.heap.size [.int .i64 2, .int .i64 frm, .int .i64 dst, .int .i64 p.e.tx, .slice ao ms.length c] 46 := At.new w _ _
  have hcX := (Chg.refl NoB w).alloc (.cells #[.int .i64 2, .int .i64 frm, .int .i64 dst, .int .i64 p.e.tx, .slice ao ms.length c] 46)
  have hsX : (w.alloc (.cells #[.int .i64 2, .int .i64 frm, .int .i64 dst, .int .i64 p.e.tx, .slice ao ms.length c] 46)).heap.size = w.heap.size + 1 := by simp
  generalize w.alloc (.cells #[.int .i64 2, .int .i64 frm, .int .i64 dst, .int .i64 p.e.tx, .slice ao ms.length c] 46) = wx at *
  have hD := deal_new wx
  have hX := hX0.chg (deal_chg wx) (by simp [NoB])
  have hc := hcX.trans (deal_chg wx) (by simp [NoB])
  have hszx : wx.heap.size = w.heap.size + 1 := hsX
  generalize wx.alloc (.cells #[.slice none 0 0, .int .i64 0, .int .i64 0, .int .i64 0, .int .i64 0, .string ⟨#[]⟩, .bool false, .string ⟨#[]⟩, .bool false, .string ⟨#[]⟩, .int .i64 0, .slice none 0 0, .slice none 0 0, .slice none 0 0, .slice none 0 0, .slice none 0 0, .slice none 0 0, .int .i64 0] 41) = w1 at *
  rw [hszx] at hD
  clear hX0 hcX hsX hszx
  have hlD := hD.lt
  have hlX := hX.lt
  have x0 := hX.cell 0 rfl
  have x1 := hX.cell 1 rfl
  have x2 := hX.cell 2 rfl
  have x3 := hX.cell 3 rfl
  have x4 := hX.cell 4 rfl
  have hck := (Chg.refl NoB w1).alloc (.cells #[.int .i64 2, .int .i64 3, .int .i64 4] 3)
  have hkv : Sees (w1.alloc (.cells #[.int .i64 2, .int .i64 3, .int .i64 4] 3)) cellsI (.slice (some ⟨w1.heap.size, 0, none⟩) 3 3) [2, 3, 4] := sees_at (l := [2, 3, 4]) (At.new w1 _ 3)
  have hcw2 := hc.trans hck (by simp [NoB])
  have hhe := heard_yes bc bm me _ _ (h.no hcw2) ⟨2, frm, dst, p.e.tx, ms⟩ (.slice ao ms.length c) (.slice (some ⟨w1.heap.size, 0, none⟩) 3 3) [2, 3, 4] (hv.no hcw2) hl hkv (by simp) hB
  simp only at hhe
  rw [(h.no hcw2).prs_some] at hhe
  unfold msgV ptr encP at hhe
  simp only at hhe
  go_upto_region 2 with (first | (go_at_call 25; refine hhe.mono ?_; clear hhe; rintro e w2 ⟨rfl, hc2⟩; have hD1 := (hD.chg hck (by simp [NoB])).chg hc2 (by simp [NoB]); have hX1 := (hX.chg hck (by simp [NoB])).chg hc2 (by simp [NoB]); have y1 := fun q : WIn w2 => q.cell (hX1.cell 1 rfl); have hltX := hX1.lt) | fail)
  have h2 := (h.no hcw2).no hc2
  have hcw3 := hcw2.trans hc2 (by simp [NoB])
  have hEH := h2.own p (by simp)
  have hE := hEH.hd
  have e1 := fun q : WIn w2 => q.cell (hE.cell 1 rfl)
  have hlt := hE.lt
  rw [hp] at e1
  have hA := hEH.a
  rw [hao] at hA
  have e3 := fun q : WIn w2 => q.cell (hE.cell 3 rfl)
  rw [hao] at e3
  have hlk := fun q : WIn w2 => set_looked (MapIs.chg hA q.h (by simp [NoB])) hfr
  rw [hin] at hlk
  refine wp_region_in w2 (Chg.refl _ _) (by kernel_rfl) (by kernel_rfl) ?_
  repeat (go_big_quiet_step (fail))
  refine wpQuiet_nil ?_
  rintro w3 ⟨⟨w3', hc3⟩, hh⟩
  change w3 = w3' at hh
  subst w3'
  have hE3 := hE.chg hc3 (by simp [NoB])
  have hX3 := hX1.chg hc3 (by simp [NoB])
  have hD3 := hD1.chg hc3 (by simp [NoB])
  have h3 := h2.no hc3
  have hA3 : SMap w3 ba (setP p.e.aw) := MapIs.chg hA hc3 (by simp [NoB])
  have hcw4 := hcw3.trans hc3 (by simp [NoB])
  clear y1 e1 e3 hlk hA hE hEH hX1 hD1 h2
  go_upto_region 4 with (fail)
  have e3 := hE3.cell 3 rfl
  rw [hao] at e3
  have e3' : w3.drew.cell? ⟨p.b, 3, none⟩ = some (.map (some ba)) := e3
  have x1' : w3.drew.cell? ⟨w.heap.size, 1, none⟩ = some (.int .i64 frm) := hX3.cell 1 rfl
  have hltX := hX3.lt
  have hlt3 := hE3.lt
  go_still_tail 6, (by kernel_rfl)
  change wpList _ _ _ _ _ w3.drew
  refine wpList_drop (hA3.drew) law3 encN_inj Try.underlying59 rfl _ _ rfl rfl frm rfl (key_lit hfr) ?_
  intro w4 hm4 hg4
  have hcd4 : Chg (· = ba) w3 w4 := (((Chg.refl NoB w3).drew).mono (T := (· = ba)) (by simp [NoB])).grown hg4 (by simp)
  change SMap w4 ba (mdel (setP p.e.aw) frm) at hm4
  rw [setP_drop] at hm4
  obtain ⟨h4, hcb4⟩ := h3.awdel hao hm4 hcd4
  have hD4 := hD3.chg hcd4 (fun e => MapIs.ne_at hA3 hD3 e.symm)
  have hX4 := hX3.chg hcd4 (fun e => MapIs.ne_at hA3 hX3 e.symm)
  have hc14 : Chg (· ∈ blocks p) w w4 := (hcw4.mono (T := (· ∈ blocks p)) (by simp [NoB])).trans hcb4 (fun _ _ h => h)
  have hEH4 := h4.own (awE p (dropI p.e.aw frm)) (by simp)
  have hE4 := hEH4.hd
  have x0 := hX4.cell 0 rfl
  have x1 := hX4.cell 1 rfl
  have hlX4 := hX4.lt
  have hlt4 : p.b < w4.heap.size := hE4.lt
  have hs14 := hc14.size
  have hbw : ∀ k ∈ blocks p, k < w.heap.size := (h.own p (by simp)).lt
  have hpw : p.b < w.heap.size := hbw _ (mem_blocks.2 (.inl rfl))
  have hbmw := h.mp.lt
  clear e3' x1' e3 hltX hX3 hD3 hE3 hlt3 hlt hcd4 hcb4 hc3 hc2 hck hkv hcw2 hc hX hD hlD hlX x2 x3 x4
  have hbs := fun q : WIn w4 => bsearch_any 0 p.yv p.e.yes frm q.w (hEH4.y.chg q.h (by simp [NoB])) (by omega) (pw_le hyp0)
  obtain ⟨ay, ky, hyv, _⟩ := hEH4.y.shape
  change p.yv = .slice ay p.e.yes.length ky at hyv
  have e4 := fun q : WIn w4 => show q.w.cell? ⟨p.b, 4, none⟩ = some (.slice ay p.e.yes.length ky) by rw [← hyv]; exact q.cell (hE4.cell 4 rfl)
  have x1q := fun q : WIn w4 => q.cell (hX4.cell 1 rfl)
  rw [hyv] at hbs
  go_upto_region 9 with (fail)
  refine wp_region_in w4 (Chg.refl _ _) (by kernel_rfl) (by kernel_rfl) ?_
  repeat (go_big_quiet_step (exact Calls.in_of (hbs _)))
  refine wpQuiet_nil ?_
  rintro w5 ⟨⟨w5', hc45⟩, hh⟩
  change w5 = w5' at hh
  subst w5'
  have hEH5 := hEH4.chg hc45 (by simp [NoB])
  have h5 := h4.no hc45
  have hX5 := hX4.chg hc45 (by simp [NoB])
  have hD5 := hD4.chg hc45 (by simp [NoB])
  have hE5 := hEH5.hd
  have hs45 := hc45.size
  have hlt5 : p.b < w5.heap.size := hE5.lt
  have hlX5 := hX5.lt
  have hca : Chg NoB w5 ((w5.alloc (.cells #[.int .i64 frm] 3)).drew) := ((Chg.refl NoB w5).alloc _).drew
  have e4w : w5.cell? ⟨p.b, 4, none⟩ = some (.slice ay p.e.yes.length ky) := by rw [← hyv]; exact hE5.cell 4 rfl
  have x1w : w5.cell? ⟨w.heap.size, 1, none⟩ = some (.int .i64 frm) := hX5.cell 1 rfl
  have e4d := S1 e4w ((Chg.refl NoB w5).drew)
  have x1d := S1 x1w ((Chg.refl NoB w5).drew)
  have e4a := S1 e4w hca
  have x1a := S1 x1w hca
  have hEa := hE5.chg hca (by simp [NoB])
  have hcle : p.e.yes.countP (· < frm) ≤ p.e.yes.length := List.countP_le_length
  have hins := insert_any 0 w5.heap.size p.yv p.e.yes (p.e.yes.countP (· < frm)) frm ((w5.alloc (.cells #[.int .i64 frm] 3)).drew) (hEH5.y.chg hca (by simp [NoB])) (by omega) hcle ((At.new w5 [.int .i64 frm] 3).drew) (fun e => by have := (hEH5.y.ge _ e).2; exact absurd this (Nat.lt_irrefl _)) (Nat.zero_le _)
  rw [hyv] at hins
  generalize hC : p.e.yes.countP (· < frm) = C at *
  have hyb : ∀ g, (Value.slice ay p.e.yes.length ky).ownBlock = some g → g ≠ p.b := fun g hg e => by subst e; rw [← hyv] at hg; exact hEH5.y.apart_at hE5 (by decide) hg
  go_upto_region 10 with (fail)
  go_region_with (first | (go_at_call 22; refine hins.mono ?_; clear hins; rintro e w6 ⟨v', rfl, hr6, hc6, hb6⟩; obtain ⟨a6, n6, k6, rfl⟩ := hr6.isSl; have hE6 := hEa.chg hc6 (fun e => hyb _ e rfl); have e46 : w6.cell? ⟨p.b, 4, none⟩ = some (.slice ay p.e.yes.length ky) := (by rw [← hyv]; exact hE6.cell 4 rfl); have f46 : w6.frozen? ⟨p.b, 4, none⟩ = false := hE6.frozen 4; have hlt6 : p.b < w6.heap.size := hE6.lt) | fail)
  all_goals
    obtain ⟨ay2, ky2, hyv2, _⟩ := hr6.shape
    simp only [Value.slice.injEq] at hyv2
    obtain ⟨ha6, hn6, hk6⟩ := hyv2
    subst hn6
    subst ay2
    subst ky2
    rw [← hyv] at hc6 hb6
    have hc56 : Chg (fun b => (awE p (dropI p.e.aw frm)).yv.ownBlock = some b) w5 w6 := (hca.mono (T := fun b => (awE p (dropI p.e.aw frm)).yv.ownBlock = some b) (by simp [NoB])).trans hc6 (fun _ _ h => h)
    obtain ⟨h7, hc7, hbl7⟩ := h5.putYes (v' := .slice a6 (insI p.e.yes C frm).length k6) hc56 hr6 (fun g hg => (hb6 g hg).imp id (fun h => by simp [World.drew] at h; omega))
    change CAt (w6.setCell ⟨p.b, 4, none⟩ (.slice a6 (insI p.e.yes C frm).length k6)) _ _ _ _ at h7
    change Chg _ w5 (w6.setCell ⟨p.b, 4, none⟩ (.slice a6 (insI p.e.yes C frm).length k6)) at hc7
    have hD7 := hD5.chg hc7 (hEH5.ne_at hD5 (by decide) (by decide))
    generalize w6.setCell ⟨p.b, 4, none⟩ (.slice a6 (insI p.e.yes C frm).length k6) = w7 at *
    have hEH7 := h7.own (yesE (awE p (dropI p.e.aw frm)) (insI p.e.yes C frm) (.slice a6 (insI p.e.yes C frm).length k6)) (by simp)
    have hs7 := hEH7.a
    change AwIs w7 p.ao (dropI p.e.aw frm) at hs7
    rw [hao] at hs7
    have hlen := MapIs.len (ty := 3) (show SMap w7 ba (setP (dropI p.e.aw frm)) from hs7) Try.underlying59
    have hln : (setP (dropI p.e.aw frm)).length = (dropI p.e.aw frm).length := by simp [setP]
    rw [hln] at hlen
    clear hln
    have e3 : w7.cell? ⟨p.b, 3, none⟩ = some (.map (some ba)) := by rw [← hao]; exact hEH7.hd.cell 3 rfl
    have hlt7 : p.b < w7.heap.size := hEH7.hd.lt
    have hC0 := Lib.hid hC
    clear hC hyv hyb e4 x1q e4d x1d e4w x1w e4a x1a e46 f46 hE6 hEa
    rw [hmo] at hlen
    have hyn : insI p.e.yes C frm ≠ [] := by unfold insI; simp
    have hyL : (insI p.e.yes C frm).length ≤ 1099511627776 := by rw [insI_len hcle]; omega
    have hs57 := hc7.size
    have hE7 := hEH7.hd
    have e4 : w7.cell? ⟨p.b, 4, none⟩ = some (.slice a6 (insI p.e.yes C frm).length k6) := hE7.cell 4 rfl
    have hltE : p.b < w7.heap.size := hE7.lt
    have hyl0 : ((insI p.e.yes C frm).length == 0) = false := by
      have : (insI p.e.yes C frm).length ≠ 0 := fun e => hyn (List.eq_nil_of_length_eq_zero e)
      simpa using this
    have hyl1 : (((insI p.e.yes C frm).length : Int) == 0) = false := by
      have : (insI p.e.yes C frm).length ≠ 0 := fun e => hyn (List.eq_nil_of_length_eq_zero e)
      simp
      omega
    have hall := all_set (.slice a6 (insI p.e.yes C frm).length k6) (insI p.e.yes C frm) w7 (Sees.of_row hEH7.y) (pw_nd hyp) (mem_i64 hyi) hyL
    clear hyp hyi
    have HYN := Lib.hid hyn
    clear hyn
    go_upto_region 17 with (first | (go_at_call 23; refine hall.mono ?_; clear hall; rintro e w6 ⟨rfl, hs6, hc6⟩; have hE6 := hE7.chg hc6 (by simp [NoB]); clear e4; have e1 : w6.cell? ⟨p.b, 1, none⟩ = some (.int .i64 p.e.phase) := hE6.cell 1 rfl; have f1 : w6.frozen? ⟨p.b, 1, none⟩ = false := hE6.frozen 1; have hlt6 : p.b < w6.heap.size := hE6.lt; have hE7 := hE6.setCell 1 (.int .i64 5); have e3 : (w6.setCell ⟨p.b, 1, none⟩ (.int .i64 5)).cell? ⟨p.b, 3, none⟩ = some (.map p.ao) := hE7.cell 3 rfl; have f3 : (w6.setCell ⟨p.b, 1, none⟩ (.int .i64 5)).frozen? ⟨p.b, 3, none⟩ = false := hE7.frozen 3; have hlt7 : p.b < (w6.setCell ⟨p.b, 1, none⟩ (.int .i64 5)).heap.size := hE7.lt) | fail)
    obtain ⟨h8, hcp8, hcw8, hbl8⟩ := h7.revote hc6 5 (insI p.e.yes C frm) w7.heap.size hs6 (Nat.le_refl _)
    change CAt ((w6.setCell ⟨p.b, 1, none⟩ (.int .i64 5)).setCell ⟨p.b, 3, none⟩ (.map (some w7.heap.size))) bc bm me _ at h8
    change Chg (· = p.b) w6 ((w6.setCell ⟨p.b, 1, none⟩ (.int .i64 5)).setCell ⟨p.b, 3, none⟩ (.map (some w7.heap.size))) at hcp8
    change Chg _ w7 ((w6.setCell ⟨p.b, 1, none⟩ (.int .i64 5)).setCell ⟨p.b, 3, none⟩ (.map (some w7.heap.size))) at hcw8
    generalize (w6.setCell ⟨p.b, 1, none⟩ (.int .i64 5)).setCell ⟨p.b, 3, none⟩ (.map (some w7.heap.size)) = w8 at *
    have hEr := h8.own (revE (yesE (awE p (dropI p.e.aw frm)) (insI p.e.yes C frm) (.slice a6 (insI p.e.yes C frm).length k6)) 5 (insI p.e.yes C frm) w7.heap.size) (by simp)
    have hD8 := (hD7.chg hc6 (by simp [NoB])).chg hcp8 (fun e => by omega)
    have e0 : w8.drew.cell? ⟨p.b, 0, none⟩ = some (.int .i64 p.e.tx) := hEr.hd.cell 0 rfl
    have e4 : w8.drew.cell? ⟨p.b, 4, none⟩ = some (.slice a6 (insI p.e.yes C frm).length k6) := hEr.hd.cell 4 rfl
    have hlt8 : p.b < w8.heap.size := hEr.hd.lt
    have hDth : w8.drew.there (w.heap.size + 1) 0 18 := hD8.drew.there
    have hcl := clone_int (.slice a6 (insI p.e.yes C frm).length k6) (insI p.e.yes C frm) w8.drew (Sees.of_row hEr.y.drew) hyL
    have hS := And.intro e0 (And.intro e4 hDth)
    have hs68 := hcp8.size
    clear e1 f1 e3 f3 hlt7 hlt6 hE7 hE6 e0 e4 hDth
    refine wp_region_held_drew (S := fun W => W.cell? ⟨p.b, 0, none⟩ = some (.int .i64 p.e.tx) ∧ W.cell? ⟨p.b, 4, none⟩ = some (.slice a6 (insI p.e.yes C frm).length k6) ∧ W.there (w.heap.size + 1) 0 18) (by kernel_rfl) hS (fun hH => ?_)
    refine held_take (i := 0) rfl (by kernel_rfl) (by kernel_rfl) (by kernel_rfl) (fun _ _ _ h => h) (by rfl) (v := ?_) ?_ hH ?_
    rotate_left
    · intro W hW
      obtain ⟨s0, s1, s2⟩ := hW
      go_simp
      try with_reducible rfl
    try simp only [Act.put, List.setIfInBounds_toArray, List.set_cons_zero, List.set_cons_succ]
    refine held_take (i := 1) rfl (by kernel_rfl) (by kernel_rfl) (by kernel_rfl) (fun _ _ _ h => h) (by rfl) (v := ?_) ?_ hH ?_
    rotate_left
    · intro W hW
      obtain ⟨s0, s1, s2⟩ := hW
      go_simp
      try with_reducible rfl
    try simp only [Act.put, List.setIfInBounds_toArray, List.set_cons_zero, List.set_cons_succ]
    refine held_take (i := 2) rfl (by kernel_rfl) (by kernel_rfl) (by kernel_rfl) (fun _ _ _ h => h) (by rfl) (v := ?_) ?_ hH ?_
    rotate_left
    · intro W hW
      obtain ⟨s0, s1, s2⟩ := hW
      go_simp
      try with_reducible rfl
    try simp only [Act.put, List.setIfInBounds_toArray, List.set_cons_zero, List.set_cons_succ]
    refine held_take (i := 3) rfl (by kernel_rfl) (by kernel_rfl) (by kernel_rfl) (fun _ _ _ h => h) (by rfl) (v := ?_) ?_ hH ?_
    rotate_left
    · intro W hW
      obtain ⟨s0, s1, s2⟩ := hW
      go_simp
      try with_reducible rfl
    try simp only [Act.put, List.setIfInBounds_toArray, List.set_cons_zero, List.set_cons_succ]
    refine held_take (i := 4) rfl (by kernel_rfl) (by kernel_rfl) (by kernel_rfl) (fun _ _ _ h => h) (by rfl) (v := ?_) ?_ hH ?_
    rotate_left
    · intro W hW
      obtain ⟨s0, s1, s2⟩ := hW
      go_simp
      try with_reducible rfl
    try simp only [Act.put, List.setIfInBounds_toArray, List.set_cons_zero, List.set_cons_succ]
    refine held_take (i := 5) rfl (by kernel_rfl) (by kernel_rfl) (by kernel_rfl) (fun _ _ _ h => h) (by rfl) (v := ?_) ?_ hH ?_
    rotate_left
    · intro W hW
      obtain ⟨s0, s1, s2⟩ := hW
      go_simp
      try with_reducible rfl
    try simp only [Act.put, List.setIfInBounds_toArray, List.set_cons_zero, List.set_cons_succ]
    refine held_take (i := 6) rfl (by kernel_rfl) (by kernel_rfl) (by kernel_rfl) (fun _ _ _ h => h) (by rfl) (v := ?_) ?_ hH ?_
    rotate_left
    · intro W hW
      obtain ⟨s0, s1, s2⟩ := hW
      go_simp
      try with_reducible rfl
    try simp only [Act.put, List.setIfInBounds_toArray, List.set_cons_zero, List.set_cons_succ]
    refine held_take (i := 7) rfl (by kernel_rfl) (by kernel_rfl) (by kernel_rfl) (fun _ _ _ h => h) (by rfl) (v := ?_) ?_ hH ?_
    rotate_left
    · intro W hW
      obtain ⟨s0, s1, s2⟩ := hW
      go_simp
      try with_reducible rfl
    try simp only [Act.put, List.setIfInBounds_toArray, List.set_cons_zero, List.set_cons_succ]
    refine wpAnyH_ready (rs := [8]) (by kernel_rfl) (by simp) ?_
    refine AllReadyH.cons rfl (fun K hK => ?_) AllReadyH.nil
    rw [if_pos (by rfl)]
    go_simp
    refine hcl.mono ?_
    clear hcl
    rintro e w9 ⟨v9, rfl, hr9, hc9⟩
    obtain ⟨a9, n9, k9, rfl⟩ := hr9.isSl
    have hD9 := hD8.drew.chg hc9 (by simp [NoB])
    have hS9 := S3no hS hD9.there hc9
    refine hK.out _ _ hS9 (fun hH9 => ?_)
    clear hK K
    try simp only [Act.put, List.setIfInBounds_toArray, List.set_cons_zero, List.set_cons_succ]
    refine held_take (i := 9) rfl (by kernel_rfl) (by kernel_rfl) (by kernel_rfl) (fun _ _ _ h => h) (by rfl) (v := ?_) ?_ hH9 ?_
    rotate_left
    · intro W hW
      obtain ⟨s0, s1, s2⟩ := hW
      go_simp
      try with_reducible rfl
    try simp only [Act.put, List.setIfInBounds_toArray, List.set_cons_zero, List.set_cons_succ]
    refine held_take (i := 10) rfl (by kernel_rfl) (by kernel_rfl) (by kernel_rfl) (fun _ _ _ h => h) (by rfl) (v := ?_) ?_ hH9 ?_
    rotate_left
    · intro W hW
      obtain ⟨s0, s1, s2⟩ := hW
      go_simp
      try with_reducible rfl
    try simp only [Act.put, List.setIfInBounds_toArray, List.set_cons_zero, List.set_cons_succ]
    refine wpAnyH_ready (rs := [11]) (by kernel_rfl) (by simp) ?_
    refine AllReadyH.cons rfl (fun K hK => ?_) AllReadyH.nil
    rw [if_pos (by rfl)]
    have hone := dealC_one (k := 9) (tx := p.e.tx) (r := 0) IsSl.nil (⟨a9, n9, k9, rfl⟩ : IsSl (.slice a9 n9 k9))
    refine wp_store_mid _ _ _ rfl (w.heap.size + 1) 0 (dealC (.slice none 0 0) 9 p.e.tx (.slice a9 n9 k9) 0).toArray rfl rfl hD9.there infoD (all_oneCell_toArray hone) ?_
    have hneD : p.b ≠ w.heap.size + 1 := by omega
    refine hK.out _ _ (S3after (cs := dealC (.slice none 0 0) 0 0 (.slice none 0 0) 0) ⟨hneD, hneD⟩ hH9 hD9 rfl) (fun _ => ?_)
    clear hK K
    refine wpAnyH_done (by kernel_rfl) ?_ _
    have hD10 := At.setCells (dealC (.slice none 0 0) 9 p.e.tx (.slice a9 n9 k9) 0) 0 w9 _ hD9
    rw [wl_all (dealC (.slice none 0 0) 9 p.e.tx (.slice a9 n9 k9) 0) (dealC (.slice none 0 0) 0 0 (.slice none 0 0) 0) rfl] at hD10
    have hc10 : Chg (· = w.heap.size + 1) w9 (w9.setCells (w.heap.size + 1) 0 (dealC (.slice none 0 0) 9 p.e.tx (.slice a9 n9 k9) 0)) := Chg.setCells (S := (· = w.heap.size + 1)) (fun _ => rfl) _ 0 w9 (Chg.refl (· = w.heap.size + 1) w9)
    have hc89 : Chg NoB w8 w9 := ((Chg.refl NoB w8).drew).trans hc9 (by simp [NoB])
    have hs89 := hc89.size
    have h9 := h8.no hc89
    change At (w9.setCells (w.heap.size + 1) 0 (dealC (.slice none 0 0) 9 p.e.tx (.slice a9 n9 k9) 0).toArray.toList) _ _ _ at hD10
    change Chg _ w9 (w9.setCells (w.heap.size + 1) 0 (dealC (.slice none 0 0) 9 p.e.tx (.slice a9 n9 k9) 0).toArray.toList) at hc10
    generalize w9.setCells (w.heap.size + 1) 0 (dealC (.slice none 0 0) 9 p.e.tx (.slice a9 n9 k9) 0).toArray.toList = w10 at *
    go_wp2
    have hd89 : w8.drew.heap.size = w8.heap.size := rfl
    have hlD8 := hD8.lt
    have hs48 := hcw8.size
    rw [← hC0.out] at hr9
    refine bodyPost_ret (ret_deal rfl rfl hD10) rfl ⟨_, rfl, revE (yesE (awE p (dropI p.e.aw frm)) (insI p.e.yes C frm) (.slice a6 (insI p.e.yes C frm).length k6)) 5 (insI p.e.yes C frm) w7.heap.size, w8.heap.size, by omega, hEr.lt, ⟨.slice none 0 0, .slice a9 n9 k9, rfl, MRow.nil _ _, ?_⟩, (by rw [← hC0.out]; rfl), (fun h => by cases h), h9.apart_at hD9 (by decide) (by decide) (by decide) hc10, ?_, ?_⟩
    · exact hr9.chg hc10 (fun g hg e => by have := (hr9.ge g hg).1; omega)
    · exact ((((hc14.trans hc45 (by simp [NoB])).trans hc7 (fun _ _ h => h)).trans hcw8 (fun j h1 h2 => (hbl7 j h2).elim id (fun h => by omega))).trans hc89 (by simp [NoB])).trans hc10 (fun j h1 h2 => by omega)
    · intro k hk
      rcases hbl8 k hk with h | h
      · exact (hbl7 k h).elim (fun h => .inl h) (fun h => .inr (by omega))
      · exact .inr (by omega)
end Go.Proofs.Ythpnhndligblaaa
