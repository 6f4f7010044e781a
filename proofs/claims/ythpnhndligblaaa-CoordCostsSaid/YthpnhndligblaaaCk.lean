/- The coordinator: the last vote. Conditions: numbers within int. -/
import Derived.Test.YthpnhndligblaaaCj
namespace Go.Proofs.Ythpnhndligblaaa
open Go.RowKit Go.Maps Go.BigFrame
theorem held_take {P : Program} {md : Region.Mode} {Q : Exit → Act → World → Prop} {S : World → Prop} {l : List Oper} {i : Nat} {oi : Oper} {v : Value} {fuel : Nat} {listed : Array Bool} {a : Act} {w : World} (hi : l[i]? = some oi)
    (hs : Region.noSelect l.toArray = true) (hf : Region.free md l.toArray listed i = true) (hr : (Region.ready md l.toArray listed).contains i = true)
    (hQ : ∀ c a w, Q (.panic c) (a.put oi.dst v) w → Q (.panic c) a w) (hw : Region.wanted oi (yielded l.toArray a.tmps) = true) (hy : ∀ w, S w → (execOp a.eval oi).run P w = .ok (.value v) w) (hS : S w)
    (h : wpAnyH P md l.toArray Q S fuel (listed.setIfInBounds i true) (a.put oi.dst v) w) : wpAnyH P md l.toArray Q S (fuel + 1) listed a w :=
  wpAnyH_take (by simpa using hi) hs hf hr hQ (.inl ⟨hw, hy⟩) hS h
theorem S3no {w w' : World} {a0 a1 : Addr} {v0 v1 : Value} {b n : Nat} (h : w.cell? a0 = some v0 ∧ w.cell? a1 = some v1 ∧ w.there b 0 n) (h3 : w'.there b 0 n) (c : Chg NoB w w') : w'.cell? a0 = some v0 ∧ w'.cell? a1 = some v1 ∧ w'.there b 0 n :=
  ⟨c.cell h.1 (by simp [NoB]), c.cell h.2.1 (by simp [NoB]), h3⟩
theorem there_set {w : World} {b : Nat} {cs : List Value} {T : TypeId} (h : At w b cs T) (vs : List Value) (hl : vs.length = cs.length) : (w.setCells b 0 vs).there b 0 cs.length := by
  have := (At.setCells vs 0 w cs h).there
  rwa [wl_all _ _ hl, hl] at this
theorem S3after {w : World} {a0 a1 : Addr} {v0 v1 : Value} {b : Nat} {cs : List Value} {T : TypeId} {vs : List Value} (hb : a0.block ≠ b ∧ a1.block ≠ b) (h : w.cell? a0 = some v0 ∧ w.cell? a1 = some v1 ∧ w.there b 0 cs.length) (hA : At w b cs T) (hl : vs.length = cs.length) : (w.setCells b 0 vs).cell? a0 = some v0 ∧ (w.setCells b 0 vs).cell? a1 = some v1 ∧ (w.setCells b 0 vs).there b 0 cs.length := by
  have c : Chg (· = b) w (w.setCells b 0 vs) := Chg.setCells (S := (· = b)) (fun _ => rfl) _ 0 w (Chg.refl (· = b) w)
  exact ⟨c.cell h.1 hb.1, c.cell h.2.1 hb.2, there_set hA vs hl⟩
set_option maxRecDepth 100000 in
set_option maxHeartbeats 800000 in
theorem vote_read_last (bc bm : Nat) (me : Int) (l1 l2 : List Ep) (p : Ep) (w : World) (h : CAt w bc bm me (l1 ++ p :: l2)) (m : Mg) (mv : Value) (hv : Sees w cellsI mv m.ms) (hl : m.ms.length ≤ 1099511627776) (ba : Nat) (hao : p.ao = some ba) (hB : heardB me m [2, 3, 4] = true) (htx : m.tx = p.e.tx) (hp : p.e.phase = 4) (hfr : I64 m.frm) (hin : p.e.aw.contains m.frm = true) (hkd : m.kind = 3) (hmo : dropI p.e.aw m.frm = []) (hyn : p.e.yes ≠ []) (hyp : p.e.yes.Pairwise (· < ·)) (hyi : ∀ n ∈ p.e.yes, 0 ≤ n ∧ n < 8) (hyL : p.e.yes.length ≤ 1099511627776) :
    Calls Try.prog 10 #[.pointer (some ⟨bc, 0, none⟩), msgV m mv] w fun e w' => ∃ v, e = .returned v ∧ ∃ p' B, w.heap.size ≤ B ∧ (∀ k ∈ blocks p', k < B) ∧ DealIs w' B v ⟨[], 9, p.e.tx, p.e.yes, 0⟩ ∧ p'.e = { p.e with phase := 5, aw := p.e.yes } ∧ p'.ao ≠ none ∧ CAt w' bc bm me (l1 ++ p' :: l2) ∧ Chg (· ∈ blocks p) w w' ∧ (∀ k ∈ blocks p', k ∈ blocks p ∨ w.heap.size ≤ k) := by
  obtain ⟨ao, c, rfl⟩ := hv.shape
  obtain ⟨kind, frm, dst, tx, ms⟩ := m
  unfold msgV
  simp only at *
  subst htx
  subst hkd
  go_enter Try.func10, Try.ntmps10
  go_upto_region 1 with (fail)
  have hX0 : At (w.alloc (.cells #[.int .i64 3, .int .i64 frm, .int .i64 dst, .int .i64 p.e.tx, .slice ao ms.length c] 46)) w.heap.size [.int .i64 3, .int .i64 frm, .int .i64 dst, .int .i64 p.e.tx, .slice ao ms.length c] 46 := At.new w _ _
  have hcX := (Chg.refl NoB w).alloc (.cells #[.int .i64 3, .int .i64 frm, .int .i64 dst, .int .i64 p.e.tx, .slice ao ms.length c] 46)
  have hsX : (w.alloc (.cells #[.int .i64 3, .int .i64 frm, .int .i64 dst, .int .i64 p.e.tx, .slice ao ms.length c] 46)).heap.size = w.heap.size + 1 := by simp
  generalize w.alloc (.cells #[.int .i64 3, .int .i64 frm, .int .i64 dst, .int .i64 p.e.tx, .slice ao ms.length c] 46) = wx at *
  have hD := deal_new wx
  have hX := hX0.chg (deal_chg wx) (by simp [NoB])
  have hc := hcX.trans (deal_chg wx) (by simp [NoB])
  have hszx : wx.heap.size = w.heap.size + 1 := hsX
  generalize wx.alloc (.cells #[.slice none 0 0, .int .i64 0, .int .i64 0, .int .i64 0, .int .i64 0, .string ⟨#[]⟩, .bool false, .string ⟨#[]⟩, .bool false, .string ⟨#[]⟩, .int .i64 0, .slice none 0 0, .slice none 0 0, .slice none 0 0, .slice none 0 0, .slice none 0 0, .slice none 0 0, .int .i64 0] 41) = w1 at *
  rw [hszx] at hD
  clear hX0 hcX hsX hszx
  have hlD := hD.lt
  have hlX := hX.lt
  have x0 := hX.cell 0 rfl
  have x1 := hX.cell 1 rfl
  have x2 := hX.cell 2 rfl
  have x3 := hX.cell 3 rfl
  have x4 := hX.cell 4 rfl
  have hck := (Chg.refl NoB w1).alloc (.cells #[.int .i64 2, .int .i64 3, .int .i64 4] 3)
  have hkv : Sees (w1.alloc (.cells #[.int .i64 2, .int .i64 3, .int .i64 4] 3)) cellsI (.slice (some ⟨w1.heap.size, 0, none⟩) 3 3) [2, 3, 4] := sees_at (l := [2, 3, 4]) (At.new w1 _ 3)
  have hcw2 := hc.trans hck (by simp [NoB])
  have hhe := heard_yes bc bm me _ _ (h.no hcw2) ⟨3, frm, dst, p.e.tx, ms⟩ (.slice ao ms.length c) (.slice (some ⟨w1.heap.size, 0, none⟩) 3 3) [2, 3, 4] (hv.no hcw2) hl hkv (by simp) hB
  simp only at hhe
  rw [(h.no hcw2).prs_some] at hhe
  unfold msgV ptr encP at hhe
  simp only at hhe
  go_upto_region 2 with (first | (go_at_call 25; refine hhe.mono ?_; clear hhe; rintro e w2 ⟨rfl, hc2⟩; have hD1 := (hD.chg hck (by simp [NoB])).chg hc2 (by simp [NoB]); have hX1 := (hX.chg hck (by simp [NoB])).chg hc2 (by simp [NoB]); have y1 := fun q : WIn w2 => q.cell (hX1.cell 1 rfl); have hltX := hX1.lt) | fail)
  have h2 := (h.no hcw2).no hc2
  have hcw3 := hcw2.trans hc2 (by simp [NoB])
  have hEH := h2.own p (by simp)
  have hE := hEH.hd
  have e1 := fun q : WIn w2 => q.cell (hE.cell 1 rfl)
  have hlt := hE.lt
  rw [hp] at e1
  have hA := hEH.a
  rw [hao] at hA
  have e3 := fun q : WIn w2 => q.cell (hE.cell 3 rfl)
  rw [hao] at e3
  have hlk := fun q : WIn w2 => set_looked (MapIs.chg hA q.h (by simp [NoB])) hfr
  rw [hin] at hlk
  refine wp_region_in w2 (Chg.refl _ _) (by kernel_rfl) (by kernel_rfl) ?_
  repeat (go_big_quiet_step (fail))
  refine wpQuiet_nil ?_
  rintro w3 ⟨⟨w3', hc3⟩, hh⟩
  change w3 = w3' at hh
  subst w3'
  have hE3 := hE.chg hc3 (by simp [NoB])
  have hX3 := hX1.chg hc3 (by simp [NoB])
  have hD3 := hD1.chg hc3 (by simp [NoB])
  have h3 := h2.no hc3
  have hA3 : SMap w3 ba (setP p.e.aw) := MapIs.chg hA hc3 (by simp [NoB])
  have hcw4 := hcw3.trans hc3 (by simp [NoB])
  clear y1 e1 e3 hlk hA hE hEH hX1 hD1 h2
  go_upto_region 4 with (fail)
  have e3 := hE3.cell 3 rfl
  rw [hao] at e3
  have e3' : w3.drew.cell? ⟨p.b, 3, none⟩ = some (.map (some ba)) := e3
  have x1' : w3.drew.cell? ⟨w.heap.size, 1, none⟩ = some (.int .i64 frm) := hX3.cell 1 rfl
  have hltX := hX3.lt
  have hlt3 := hE3.lt
  go_still_tail 6, (by kernel_rfl)
  change wpList _ _ _ _ _ w3.drew
  refine wpList_drop (hA3.drew) law3 encN_inj Try.underlying59 rfl _ _ rfl rfl frm rfl (key_lit hfr) ?_
  intro w4 hm4 hg4
  have hcd4 : Chg (· = ba) w3 w4 := (((Chg.refl NoB w3).drew).mono (T := (· = ba)) (by simp [NoB])).grown hg4 (by simp)
  change SMap w4 ba (mdel (setP p.e.aw) frm) at hm4
  rw [setP_drop] at hm4
  obtain ⟨h4, hcb4⟩ := h3.awdel hao hm4 hcd4
  have hD4 := hD3.chg hcd4 (fun e => MapIs.ne_at hA3 hD3 e.symm)
  have hX4 := hX3.chg hcd4 (fun e => MapIs.ne_at hA3 hX3 e.symm)
  have hc14 : Chg (· ∈ blocks p) w w4 := (hcw4.mono (T := (· ∈ blocks p)) (by simp [NoB])).trans hcb4 (fun _ _ h => h)
  have hEH4 := h4.own (awE p (dropI p.e.aw frm)) (by simp)
  have hE4 := hEH4.hd
  have x0 := hX4.cell 0 rfl
  have x1 := hX4.cell 1 rfl
  have hlX4 := hX4.lt
  have hlt4 : p.b < w4.heap.size := hE4.lt
  have hs14 := hc14.size
  have hbw : ∀ k ∈ blocks p, k < w.heap.size := (h.own p (by simp)).lt
  have hpw : p.b < w.heap.size := hbw _ (mem_blocks.2 (.inl rfl))
  have hbmw := h.mp.lt
  clear e3' x1' e3 hltX hX3 hD3 hE3 hlt3 hlt hcd4 hcb4 hc3 hc2 hck hkv hcw2 hc hX hD hlD hlX x2 x3 x4
  have hlen := hm4.len (ty := 3) Try.underlying59
  have hln : (setP (dropI p.e.aw frm)).length = (dropI p.e.aw frm).length := by simp [setP]
  rw [hln] at hlen
  clear hln
  have e3 : w4.cell? ⟨p.b, 3, none⟩ = some (.map (some ba)) := by rw [← hao]; exact hE4.cell 3 rfl
  rw [hmo] at hlen
  have hE4 := hEH4.hd
  obtain ⟨ay, ky, hyv, _⟩ := hEH4.y.shape
  change p.yv = .slice ay p.e.yes.length ky at hyv
  have e4 : w4.cell? ⟨p.b, 4, none⟩ = some (.slice ay p.e.yes.length ky) := by rw [← hyv]; exact hE4.cell 4 rfl
  have hltE : p.b < w4.heap.size := hE4.lt
  have hyl0 : (p.e.yes.length == 0) = false := by
    have : p.e.yes.length ≠ 0 := fun e => hyn (List.eq_nil_of_length_eq_zero e)
    simpa using this
  have hyl1 : ((p.e.yes.length : Int) == 0) = false := by
    have : p.e.yes.length ≠ 0 := fun e => hyn (List.eq_nil_of_length_eq_zero e)
    simp
    omega
  have hall := all_set p.yv p.e.yes w4 (Sees.of_row hEH4.y) (pw_nd hyp) (mem_i64 hyi) hyL
  rw [hyv] at hall
  go_upto_region 17 with (first | (go_at_call 23; refine hall.mono ?_; clear hall; rintro e w6 ⟨rfl, hs6, hc6⟩; have hE6 := hE4.chg hc6 (by simp [NoB]); clear e4; have e1 : w6.cell? ⟨p.b, 1, none⟩ = some (.int .i64 p.e.phase) := hE6.cell 1 rfl; have f1 : w6.frozen? ⟨p.b, 1, none⟩ = false := hE6.frozen 1; have hlt6 : p.b < w6.heap.size := hE6.lt; have hE7 := hE6.setCell 1 (.int .i64 5); have e3 : (w6.setCell ⟨p.b, 1, none⟩ (.int .i64 5)).cell? ⟨p.b, 3, none⟩ = some (.map p.ao) := hE7.cell 3 rfl; have f3 : (w6.setCell ⟨p.b, 1, none⟩ (.int .i64 5)).frozen? ⟨p.b, 3, none⟩ = false := hE7.frozen 3; have hlt7 : p.b < (w6.setCell ⟨p.b, 1, none⟩ (.int .i64 5)).heap.size := hE7.lt) | fail)
  obtain ⟨h8, hcp8, hcw8, hbl8⟩ := h4.revote hc6 5 p.e.yes w4.heap.size hs6 (Nat.le_refl _)
  change CAt ((w6.setCell ⟨p.b, 1, none⟩ (.int .i64 5)).setCell ⟨p.b, 3, none⟩ (.map (some w4.heap.size))) bc bm me _ at h8
  change Chg (· = p.b) w6 ((w6.setCell ⟨p.b, 1, none⟩ (.int .i64 5)).setCell ⟨p.b, 3, none⟩ (.map (some w4.heap.size))) at hcp8
  change Chg _ w4 ((w6.setCell ⟨p.b, 1, none⟩ (.int .i64 5)).setCell ⟨p.b, 3, none⟩ (.map (some w4.heap.size))) at hcw8
  generalize (w6.setCell ⟨p.b, 1, none⟩ (.int .i64 5)).setCell ⟨p.b, 3, none⟩ (.map (some w4.heap.size)) = w8 at *
  have hEr := h8.own (revE (awE p (dropI p.e.aw frm)) 5 p.e.yes w4.heap.size) (by simp)
  have hD8 := (hD4.chg hc6 (by simp [NoB])).chg hcp8 (fun e => by omega)
  have e0 : w8.drew.cell? ⟨p.b, 0, none⟩ = some (.int .i64 p.e.tx) := hEr.hd.cell 0 rfl
  have e4 : w8.drew.cell? ⟨p.b, 4, none⟩ = some p.yv := hEr.hd.cell 4 rfl
  rw [hyv] at e4
  have hlt8 : p.b < w8.heap.size := hEr.hd.lt
  have hDth : w8.drew.there (w.heap.size + 1) 0 18 := hD8.drew.there
  have hcl := clone_int p.yv p.e.yes w8.drew (Sees.of_row hEr.y.drew) hyL
  rw [hyv] at hcl
  have hS := And.intro e0 (And.intro e4 hDth)
  have hs68 := hcp8.size
  clear e1 f1 e3 f3 hlt7 hlt6 hE7 hE6 e0 e4 hDth
  refine wp_region_held_drew (S := fun W => W.cell? ⟨p.b, 0, none⟩ = some (.int .i64 p.e.tx) ∧ W.cell? ⟨p.b, 4, none⟩ = some (.slice ay p.e.yes.length ky) ∧ W.there (w.heap.size + 1) 0 18) (by kernel_rfl) hS (fun hH => ?_)
  refine held_take (i := 0) rfl (by kernel_rfl) (by kernel_rfl) (by kernel_rfl) (fun _ _ _ h => h) (by rfl) (v := ?_) ?_ hH ?_
  rotate_left
  · intro W hW
    obtain ⟨s0, s1, s2⟩ := hW
    go_simp
    try with_reducible rfl
  try simp only [Act.put, List.setIfInBounds_toArray, List.set_cons_zero, List.set_cons_succ]
  refine held_take (i := 1) rfl (by kernel_rfl) (by kernel_rfl) (by kernel_rfl) (fun _ _ _ h => h) (by rfl) (v := ?_) ?_ hH ?_
  rotate_left
  · intro W hW
    obtain ⟨s0, s1, s2⟩ := hW
    go_simp
    try with_reducible rfl
  try simp only [Act.put, List.setIfInBounds_toArray, List.set_cons_zero, List.set_cons_succ]
  refine held_take (i := 2) rfl (by kernel_rfl) (by kernel_rfl) (by kernel_rfl) (fun _ _ _ h => h) (by rfl) (v := ?_) ?_ hH ?_
  rotate_left
  · intro W hW
    obtain ⟨s0, s1, s2⟩ := hW
    go_simp
    try with_reducible rfl
  try simp only [Act.put, List.setIfInBounds_toArray, List.set_cons_zero, List.set_cons_succ]
  refine held_take (i := 3) rfl (by kernel_rfl) (by kernel_rfl) (by kernel_rfl) (fun _ _ _ h => h) (by rfl) (v := ?_) ?_ hH ?_
  rotate_left
  · intro W hW
    obtain ⟨s0, s1, s2⟩ := hW
    go_simp
    try with_reducible rfl
  try simp only [Act.put, List.setIfInBounds_toArray, List.set_cons_zero, List.set_cons_succ]
  refine held_take (i := 4) rfl (by kernel_rfl) (by kernel_rfl) (by kernel_rfl) (fun _ _ _ h => h) (by rfl) (v := ?_) ?_ hH ?_
  rotate_left
  · intro W hW
    obtain ⟨s0, s1, s2⟩ := hW
    go_simp
    try with_reducible rfl
  try simp only [Act.put, List.setIfInBounds_toArray, List.set_cons_zero, List.set_cons_succ]
  refine held_take (i := 5) rfl (by kernel_rfl) (by kernel_rfl) (by kernel_rfl) (fun _ _ _ h => h) (by rfl) (v := ?_) ?_ hH ?_
  rotate_left
  · intro W hW
    obtain ⟨s0, s1, s2⟩ := hW
    go_simp
    try with_reducible rfl
  try simp only [Act.put, List.setIfInBounds_toArray, List.set_cons_zero, List.set_cons_succ]
  refine held_take (i := 6) rfl (by kernel_rfl) (by kernel_rfl) (by kernel_rfl) (fun _ _ _ h => h) (by rfl) (v := ?_) ?_ hH ?_
  rotate_left
  · intro W hW
    obtain ⟨s0, s1, s2⟩ := hW
    go_simp
    try with_reducible rfl
  try simp only [Act.put, List.setIfInBounds_toArray, List.set_cons_zero, List.set_cons_succ]
  refine held_take (i := 7) rfl (by kernel_rfl) (by kernel_rfl) (by kernel_rfl) (fun _ _ _ h => h) (by rfl) (v := ?_) ?_ hH ?_
  rotate_left
  · intro W hW
    obtain ⟨s0, s1, s2⟩ := hW
    go_simp
    try with_reducible rfl
  try simp only [Act.put, List.setIfInBounds_toArray, List.set_cons_zero, List.set_cons_succ]
  refine wpAnyH_ready (rs := [8]) (by kernel_rfl) (by simp) ?_
  refine AllReadyH.cons rfl (fun K hK => ?_) AllReadyH.nil
  rw [if_pos (by rfl)]
  go_simp
  refine hcl.mono ?_
  clear hcl
  rintro e w9 ⟨v9, rfl, hr9, hc9⟩
  obtain ⟨a9, n9, k9, rfl⟩ := hr9.isSl
  have hD9 := hD8.drew.chg hc9 (by simp [NoB])
  have hS9 := S3no hS hD9.there hc9
  refine hK.out _ _ hS9 (fun hH9 => ?_)
  clear hK K
  try simp only [Act.put, List.setIfInBounds_toArray, List.set_cons_zero, List.set_cons_succ]
  refine held_take (i := 9) rfl (by kernel_rfl) (by kernel_rfl) (by kernel_rfl) (fun _ _ _ h => h) (by rfl) (v := ?_) ?_ hH9 ?_
  rotate_left
  · intro W hW
    obtain ⟨s0, s1, s2⟩ := hW
    go_simp
    try with_reducible rfl
  try simp only [Act.put, List.setIfInBounds_toArray, List.set_cons_zero, List.set_cons_succ]
  refine held_take (i := 10) rfl (by kernel_rfl) (by kernel_rfl) (by kernel_rfl) (fun _ _ _ h => h) (by rfl) (v := ?_) ?_ hH9 ?_
  rotate_left
  · intro W hW
    obtain ⟨s0, s1, s2⟩ := hW
    go_simp
    try with_reducible rfl
  try simp only [Act.put, List.setIfInBounds_toArray, List.set_cons_zero, List.set_cons_succ]
  refine wpAnyH_ready (rs := [11]) (by kernel_rfl) (by simp) ?_
  refine AllReadyH.cons rfl (fun K hK => ?_) AllReadyH.nil
  rw [if_pos (by rfl)]
  have hone := dealC_one (k := 9) (tx := p.e.tx) (r := 0) IsSl.nil (⟨a9, n9, k9, rfl⟩ : IsSl (.slice a9 n9 k9))
  refine wp_store_mid _ _ _ rfl (w.heap.size + 1) 0 (dealC (.slice none 0 0) 9 p.e.tx (.slice a9 n9 k9) 0).toArray rfl rfl hD9.there infoD (all_oneCell_toArray hone) ?_
  have hneD : p.b ≠ w.heap.size + 1 := by omega
  refine hK.out _ _ (S3after (cs := dealC (.slice none 0 0) 0 0 (.slice none 0 0) 0) ⟨hneD, hneD⟩ hH9 hD9 rfl) (fun _ => ?_)
  clear hK K
  refine wpAnyH_done (by kernel_rfl) ?_ _
  have hD10 := At.setCells (dealC (.slice none 0 0) 9 p.e.tx (.slice a9 n9 k9) 0) 0 w9 _ hD9
  rw [wl_all (dealC (.slice none 0 0) 9 p.e.tx (.slice a9 n9 k9) 0) (dealC (.slice none 0 0) 0 0 (.slice none 0 0) 0) rfl] at hD10
  have hc10 : Chg (· = w.heap.size + 1) w9 (w9.setCells (w.heap.size + 1) 0 (dealC (.slice none 0 0) 9 p.e.tx (.slice a9 n9 k9) 0)) := Chg.setCells (S := (· = w.heap.size + 1)) (fun _ => rfl) _ 0 w9 (Chg.refl (· = w.heap.size + 1) w9)
  have hc89 : Chg NoB w8 w9 := ((Chg.refl NoB w8).drew).trans hc9 (by simp [NoB])
  have hs89 := hc89.size
  have h9 := h8.no hc89
  change At (w9.setCells (w.heap.size + 1) 0 (dealC (.slice none 0 0) 9 p.e.tx (.slice a9 n9 k9) 0).toArray.toList) _ _ _ at hD10
  change Chg _ w9 (w9.setCells (w.heap.size + 1) 0 (dealC (.slice none 0 0) 9 p.e.tx (.slice a9 n9 k9) 0).toArray.toList) at hc10
  generalize w9.setCells (w.heap.size + 1) 0 (dealC (.slice none 0 0) 9 p.e.tx (.slice a9 n9 k9) 0).toArray.toList = w10 at *
  go_wp2
  have hd89 : w8.drew.heap.size = w8.heap.size := rfl
  have hlD8 := hD8.lt
  have hs48 := hcw8.size
  refine bodyPost_ret (ret_deal rfl rfl hD10) rfl ⟨_, rfl, revE (awE p (dropI p.e.aw frm)) 5 p.e.yes w4.heap.size, w8.heap.size, by omega, hEr.lt, ⟨.slice none 0 0, .slice a9 n9 k9, rfl, MRow.nil _ _, ?_⟩, rfl, (fun h => by cases h), h9.apart_at hD9 (by decide) (by decide) (by decide) hc10, ?_, ?_⟩
  · exact hr9.chg hc10 (fun g hg e => by have := (hr9.ge g hg).1; omega)
  · exact ((hc14.trans hcw8 (fun _ _ h => h)).trans hc89 (by simp [NoB])).trans hc10 (fun j h1 h2 => by omega)
  · intro k hk
    rcases hbl8 k hk with h | h
    · exact .inl h
    · exact .inr (by omega)
end Go.Proofs.Ythpnhndligblaaa
