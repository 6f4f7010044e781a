/- The coordinator: votes of which nothing comes. Conditions: numbers within int. -/
import Derived.Test.YthpnhndligblaaaCh
namespace Go.Proofs.Ythpnhndligblaaa
open Go.RowKit Go.Maps Go.BigFrame
theorem mget_set (l : List Int) (x : Int) : mget (setP l) x = if l.contains x then some true else none := by
  induction l with
  | nil => rfl
  | cons a l ih =>
    unfold mget setP at ih ⊢
    rw [List.map_cons, List.lookup_cons, ih, List.contains_cons]
    by_cases h : x = a
    · subst h; simp
    · have h1 : (x == a) = false := by simpa using h
      rw [h1]
      simp
theorem zeroB (w : World) : (zeroValue 4).run Try.prog w = .ok (.bool false) w := by kernel_rfl
theorem set_looked {w : World} {ba : Nat} {aw : List Int} (hs : SMap w ba (setP aw)) {x : Int} (hx : I64 x) : (Instr.lookup 59 (.map (some ba)) (.int .i64 x) false).run Try.prog w = .ok (.bool (aw.contains x)) w := by
  have := hs.look law3 encN_inj Try.underlying59 zeroB (key_lit hx) false
  rw [mget_set] at this
  have he : found encB (.bool false) false (if aw.contains x then some true else none) = .bool (aw.contains x) := by cases aw.contains x <;> rfl
  rw [he] at this
  exact this
set_option maxRecDepth 100000 in
set_option maxHeartbeats 800000 in
theorem vote_nil (w : World) (m : Mg) (mv : Value) (hv : Sees w cellsI mv m.ms) (hl : m.ms.length ≤ 1099511627776) : Calls Try.prog 10 #[.pointer none, msgV m mv] w fun e w' => ∃ v, e = .returned v ∧ DealIs w' w.heap.size v noDeal ∧ Chg NoB w w' := by
  obtain ⟨ao, c, rfl⟩ := hv.shape
  obtain ⟨kind, frm, dst, tx, ms⟩ := m
  unfold msgV
  simp only at *
  go_enter Try.func10, Try.ntmps10
  go_upto_region 1 with (fail)
  have hX0 : At (w.alloc (.cells #[.int .i64 kind, .int .i64 frm, .int .i64 dst, .int .i64 tx, .slice ao ms.length c] 46)) w.heap.size [.int .i64 kind, .int .i64 frm, .int .i64 dst, .int .i64 tx, .slice ao ms.length c] 46 := At.new w _ _
  have hcX := (Chg.refl NoB w).alloc (.cells #[.int .i64 kind, .int .i64 frm, .int .i64 dst, .int .i64 tx, .slice ao ms.length c] 46)
  have hsX : (w.alloc (.cells #[.int .i64 kind, .int .i64 frm, .int .i64 dst, .int .i64 tx, .slice ao ms.length c] 46)).heap.size = w.heap.size + 1 := by simp
  generalize w.alloc (.cells #[.int .i64 kind, .int .i64 frm, .int .i64 dst, .int .i64 tx, .slice ao ms.length c] 46) = wx at *
  have hD := deal_new wx
  have hX := hX0.chg (deal_chg wx) (by simp [NoB])
  have hc := hcX.trans (deal_chg wx) (by simp [NoB])
  have hszx : wx.heap.size = w.heap.size + 1 := hsX
  generalize wx.alloc (.cells #[.slice none 0 0, .int .i64 0, .int .i64 0, .int .i64 0, .int .i64 0, .string ⟨#[]⟩, .bool false, .string ⟨#[]⟩, .bool false, .string ⟨#[]⟩, .int .i64 0, .slice none 0 0, .slice none 0 0, .slice none 0 0, .slice none 0 0, .slice none 0 0, .slice none 0 0, .int .i64 0] 41) = w1 at *
  rw [hszx] at hD
  clear hX0 hcX hsX hszx
  have hlD := hD.lt
  have hlX := hX.lt
  have x0 := hX.cell 0 rfl
  have x1 := hX.cell 1 rfl
  have x2 := hX.cell 2 rfl
  have x3 := hX.cell 3 rfl
  have x4 := hX.cell 4 rfl
  have hck := (Chg.refl NoB w1).alloc (.cells #[.int .i64 2, .int .i64 3, .int .i64 4] 3)
  have hkv : Sees (w1.alloc (.cells #[.int .i64 2, .int .i64 3, .int .i64 4] 3)) cellsI (.slice (some ⟨w1.heap.size, 0, none⟩) 3 3) [2, 3, 4] := sees_at (l := [2, 3, 4]) (At.new w1 _ 3)
  have hcw2 := hc.trans hck (by simp [NoB])
  have hhe := heard_nil ⟨kind, frm, dst, tx, ms⟩ (.slice ao ms.length c) (.slice (some ⟨w1.heap.size, 0, none⟩) 3 3) (w1.alloc (.cells #[.int .i64 2, .int .i64 3, .int .i64 4] 3))
  unfold msgV at hhe
  simp only at hhe
  go_upto_region 2 with (first | (go_at_call 25; refine hhe.mono ?_; clear hhe; rintro e w2 ⟨rfl, hc2⟩; have hD1 := (hD.chg hck (by simp [NoB])).chg hc2 (by simp [NoB]); have hX1 := (hX.chg hck (by simp [NoB])).chg hc2 (by simp [NoB]); have y1 := fun q : WIn w2 => q.cell (hX1.cell 1 rfl); have hltX := hX1.lt) | fail)
  refine wp_region_in w2 (Chg.refl _ _) (by kernel_rfl) (by kernel_rfl) ?_
  repeat (go_big_quiet_step (fail))
  refine wpQuiet_nil ?_
  rintro w3 ⟨⟨w3', hc3⟩, hh⟩
  change w3 = w3' at hh
  subst w3'
  have hD3 := hD1.chg hc3 (by simp [NoB])
  go_wp2_with (first | (refine wpList_deal hD3 rfl _ _ rfl rfl (.slice none 0 0) (0) (0) (.slice none 0 0) (0) rfl IsSl.nil IsSl.nil ?_; intro w4 hD4 hc4 hs4) | fail)
  exact bodyPost_ret (ret_deal rfl rfl hD4) rfl ⟨_, rfl, DealIs.zero _ _, ((hcw2.trans hc2 (by simp [NoB])).trans hc3 (by simp [NoB])).fresh hc4 (by omega)⟩
set_option maxRecDepth 100000 in
set_option maxHeartbeats 800000 in
theorem vote_deaf (bc : Nat) (mp : Value) (me : Int) (w : World) (hd : At w bc [.int .i64 me, mp] 56) (m : Mg) (mv : Value) (hv : Sees w cellsI mv m.ms) (hl : m.ms.length ≤ 1099511627776) (hB : heardB me m [2, 3, 4] = false) : Calls Try.prog 10 #[.pointer (some ⟨bc, 0, none⟩), msgV m mv] w fun e w' => ∃ v, e = .returned v ∧ DealIs w' w.heap.size v noDeal ∧ Chg NoB w w' := by
  obtain ⟨ao, c, rfl⟩ := hv.shape
  obtain ⟨kind, frm, dst, tx, ms⟩ := m
  unfold msgV
  simp only at *
  go_enter Try.func10, Try.ntmps10
  go_upto_region 1 with (fail)
  have hX0 : At (w.alloc (.cells #[.int .i64 kind, .int .i64 frm, .int .i64 dst, .int .i64 tx, .slice ao ms.length c] 46)) w.heap.size [.int .i64 kind, .int .i64 frm, .int .i64 dst, .int .i64 tx, .slice ao ms.length c] 46 := At.new w _ _
  have hcX := (Chg.refl NoB w).alloc (.cells #[.int .i64 kind, .int .i64 frm, .int .i64 dst, .int .i64 tx, .slice ao ms.length c] 46)
  have hsX : (w.alloc (.cells #[.int .i64 kind, .int .i64 frm, .int .i64 dst, .int .i64 tx, .slice ao ms.length c] 46)).heap.size = w.heap.size + 1 := by simp
  generalize w.alloc (.cells #[.int .i64 kind, .int .i64 frm, .int .i64 dst, .int .i64 tx, .slice ao ms.length c] 46) = wx at *
  have hD := deal_new wx
  have hX := hX0.chg (deal_chg wx) (by simp [NoB])
  have hc := hcX.trans (deal_chg wx) (by simp [NoB])
  have hszx : wx.heap.size = w.heap.size + 1 := hsX
  generalize wx.alloc (.cells #[.slice none 0 0, .int .i64 0, .int .i64 0, .int .i64 0, .int .i64 0, .string ⟨#[]⟩, .bool false, .string ⟨#[]⟩, .bool false, .string ⟨#[]⟩, .int .i64 0, .slice none 0 0, .slice none 0 0, .slice none 0 0, .slice none 0 0, .slice none 0 0, .slice none 0 0, .int .i64 0] 41) = w1 at *
  rw [hszx] at hD
  clear hX0 hcX hsX hszx
  have hlD := hD.lt
  have hlX := hX.lt
  have x0 := hX.cell 0 rfl
  have x1 := hX.cell 1 rfl
  have x2 := hX.cell 2 rfl
  have x3 := hX.cell 3 rfl
  have x4 := hX.cell 4 rfl
  have hck := (Chg.refl NoB w1).alloc (.cells #[.int .i64 2, .int .i64 3, .int .i64 4] 3)
  have hkv : Sees (w1.alloc (.cells #[.int .i64 2, .int .i64 3, .int .i64 4] 3)) cellsI (.slice (some ⟨w1.heap.size, 0, none⟩) 3 3) [2, 3, 4] := sees_at (l := [2, 3, 4]) (At.new w1 _ 3)
  have hcw2 := hc.trans hck (by simp [NoB])
  have hhe := heard_no bc mp me _ ⟨kind, frm, dst, tx, ms⟩ (.slice ao ms.length c) (.slice (some ⟨w1.heap.size, 0, none⟩) 3 3) [2, 3, 4] (hd.chg hcw2 (by simp [NoB])) (hv.no hcw2) hl hkv (by simp) hB
  unfold msgV at hhe
  simp only at hhe
  go_upto_region 2 with (first | (go_at_call 25; refine hhe.mono ?_; clear hhe; rintro e w2 ⟨rfl, hc2⟩; have hD1 := (hD.chg hck (by simp [NoB])).chg hc2 (by simp [NoB]); have hX1 := (hX.chg hck (by simp [NoB])).chg hc2 (by simp [NoB]); have y1 := fun q : WIn w2 => q.cell (hX1.cell 1 rfl); have hltX := hX1.lt) | fail)
  refine wp_region_in w2 (Chg.refl _ _) (by kernel_rfl) (by kernel_rfl) ?_
  repeat (go_big_quiet_step (fail))
  refine wpQuiet_nil ?_
  rintro w3 ⟨⟨w3', hc3⟩, hh⟩
  change w3 = w3' at hh
  subst w3'
  have hD3 := hD1.chg hc3 (by simp [NoB])
  go_wp2_with (first | (refine wpList_deal hD3 rfl _ _ rfl rfl (.slice none 0 0) (0) (0) (.slice none 0 0) (0) rfl IsSl.nil IsSl.nil ?_; intro w4 hD4 hc4 hs4) | fail)
  exact bodyPost_ret (ret_deal rfl rfl hD4) rfl ⟨_, rfl, DealIs.zero _ _, ((hcw2.trans hc2 (by simp [NoB])).trans hc3 (by simp [NoB])).fresh hc4 (by omega)⟩
set_option maxRecDepth 100000 in
set_option maxHeartbeats 800000 in
theorem vote_none (bc bm : Nat) (me : Int) (l : List Ep) (w : World) (h : CAt w bc bm me l) (m : Mg) (mv : Value) (hv : Sees w cellsI mv m.ms) (hl : m.ms.length ≤ 1099511627776) (hB : heardB me m [2, 3, 4] = true) (hno : m.tx ∉ l.map (·.e.tx)) : Calls Try.prog 10 #[.pointer (some ⟨bc, 0, none⟩), msgV m mv] w fun e w' => ∃ v, e = .returned v ∧ DealIs w' w.heap.size v noDeal ∧ Chg NoB w w' := by
  obtain ⟨ao, c, rfl⟩ := hv.shape
  obtain ⟨kind, frm, dst, tx, ms⟩ := m
  unfold msgV
  simp only at *
  go_enter Try.func10, Try.ntmps10
  go_upto_region 1 with (fail)
  have hX0 : At (w.alloc (.cells #[.int .i64 kind, .int .i64 frm, .int .i64 dst, .int .i64 tx, .slice ao ms.length c] 46)) w.heap.size [.int .i64 kind, .int .i64 frm, .int .i64 dst, .int .i64 tx, .slice ao ms.length c] 46 := At.new w _ _
  have hcX := (Chg.refl NoB w).alloc (.cells #[.int .i64 kind, .int .i64 frm, .int .i64 dst, .int .i64 tx, .slice ao ms.length c] 46)
  have hsX : (w.alloc (.cells #[.int .i64 kind, .int .i64 frm, .int .i64 dst, .int .i64 tx, .slice ao ms.length c] 46)).heap.size = w.heap.size + 1 := by simp
  generalize w.alloc (.cells #[.int .i64 kind, .int .i64 frm, .int .i64 dst, .int .i64 tx, .slice ao ms.length c] 46) = wx at *
  have hD := deal_new wx
  have hX := hX0.chg (deal_chg wx) (by simp [NoB])
  have hc := hcX.trans (deal_chg wx) (by simp [NoB])
  have hszx : wx.heap.size = w.heap.size + 1 := hsX
  generalize wx.alloc (.cells #[.slice none 0 0, .int .i64 0, .int .i64 0, .int .i64 0, .int .i64 0, .string ⟨#[]⟩, .bool false, .string ⟨#[]⟩, .bool false, .string ⟨#[]⟩, .int .i64 0, .slice none 0 0, .slice none 0 0, .slice none 0 0, .slice none 0 0, .slice none 0 0, .slice none 0 0, .int .i64 0] 41) = w1 at *
  rw [hszx] at hD
  clear hX0 hcX hsX hszx
  have hlD := hD.lt
  have hlX := hX.lt
  have x0 := hX.cell 0 rfl
  have x1 := hX.cell 1 rfl
  have x2 := hX.cell 2 rfl
  have x3 := hX.cell 3 rfl
  have x4 := hX.cell 4 rfl
  have hck := (Chg.refl NoB w1).alloc (.cells #[.int .i64 2, .int .i64 3, .int .i64 4] 3)
  have hkv : Sees (w1.alloc (.cells #[.int .i64 2, .int .i64 3, .int .i64 4] 3)) cellsI (.slice (some ⟨w1.heap.size, 0, none⟩) 3 3) [2, 3, 4] := sees_at (l := [2, 3, 4]) (At.new w1 _ 3)
  have hcw2 := hc.trans hck (by simp [NoB])
  have hhe := heard_yes bc bm me l _ (h.no hcw2) ⟨kind, frm, dst, tx, ms⟩ (.slice ao ms.length c) (.slice (some ⟨w1.heap.size, 0, none⟩) 3 3) [2, 3, 4] (hv.no hcw2) hl hkv (by simp) hB
  simp only at hhe
  rw [prs_none hno] at hhe
  unfold msgV ptr at hhe
  simp only at hhe
  go_upto_region 2 with (first | (go_at_call 25; refine hhe.mono ?_; clear hhe; rintro e w2 ⟨rfl, hc2⟩; have hD1 := (hD.chg hck (by simp [NoB])).chg hc2 (by simp [NoB]); have hX1 := (hX.chg hck (by simp [NoB])).chg hc2 (by simp [NoB]); have y1 := fun q : WIn w2 => q.cell (hX1.cell 1 rfl); have hltX := hX1.lt) | fail)
  refine wp_region_in w2 (Chg.refl _ _) (by kernel_rfl) (by kernel_rfl) ?_
  repeat (go_big_quiet_step (fail))
  refine wpQuiet_nil ?_
  rintro w3 ⟨⟨w3', hc3⟩, hh⟩
  change w3 = w3' at hh
  subst w3'
  have hD3 := hD1.chg hc3 (by simp [NoB])
  go_wp2_with (first | (refine wpList_deal hD3 rfl _ _ rfl rfl (.slice none 0 0) (0) (0) (.slice none 0 0) (0) rfl IsSl.nil IsSl.nil ?_; intro w4 hD4 hc4 hs4) | fail)
  exact bodyPost_ret (ret_deal rfl rfl hD4) rfl ⟨_, rfl, DealIs.zero _ _, ((hcw2.trans hc2 (by simp [NoB])).trans hc3 (by simp [NoB])).fresh hc4 (by omega)⟩
set_option maxRecDepth 100000 in
set_option maxHeartbeats 800000 in
theorem vote_phase (bc bm : Nat) (me : Int) (l1 l2 : List Ep) (p : Ep) (w : World) (h : CAt w bc bm me (l1 ++ p :: l2)) (m : Mg) (mv : Value) (hv : Sees w cellsI mv m.ms) (hl : m.ms.length ≤ 1099511627776) (hB : heardB me m [2, 3, 4] = true) (htx : m.tx = p.e.tx) (hp : p.e.phase ≠ 4) : Calls Try.prog 10 #[.pointer (some ⟨bc, 0, none⟩), msgV m mv] w fun e w' => ∃ v, e = .returned v ∧ DealIs w' w.heap.size v noDeal ∧ Chg NoB w w' := by
  obtain ⟨ao, c, rfl⟩ := hv.shape
  obtain ⟨kind, frm, dst, tx, ms⟩ := m
  unfold msgV
  simp only at *
  subst htx
  go_enter Try.func10, Try.ntmps10
  go_upto_region 1 with (fail)
  have hX0 : At (w.alloc (.cells #[.int .i64 kind, .int .i64 frm, .int .i64 dst, .int .i64 p.e.tx, .slice ao ms.length c] 46)) w.heap.size [.int .i64 kind, .int .i64 frm, .int .i64 dst, .int .i64 p.e.tx, .slice ao ms.length c] 46 := At.new w _ _
  have hcX := (Chg.refl NoB w).alloc (.cells #[.int .i64 kind, .int .i64 frm, .int .i64 dst, .int .i64 p.e.tx, .slice ao ms.length c] 46)
  have hsX : (w.alloc (.cells #[.int .i64 kind, .int .i64 frm, .int .i64 dst, .int .i64 p.e.tx, .slice ao ms.length c] 46)).heap.size = w.heap.size + 1 := by simp
  generalize w.alloc (.cells #[.int .i64 kind, .int .i64 frm, .int .i64 dst, .int .i64 p.e.tx, .slice ao ms.length c] 46) = wx at *
  have hD := deal_new wx
  have hX := hX0.chg (deal_chg wx) (by simp [NoB])
  have hc := hcX.trans (deal_chg wx) (by simp [NoB])
  have hszx : wx.heap.size = w.heap.size + 1 := hsX
  generalize wx.alloc (.cells #[.slice none 0 0, .int .i64 0, .int .i64 0, .int .i64 0, .int .i64 0, .string ⟨#[]⟩, .bool false, .string ⟨#[]⟩, .bool false, .string ⟨#[]⟩, .int .i64 0, .slice none 0 0, .slice none 0 0, .slice none 0 0, .slice none 0 0, .slice none 0 0, .slice none 0 0, .int .i64 0] 41) = w1 at *
  rw [hszx] at hD
  clear hX0 hcX hsX hszx
  have hlD := hD.lt
  have hlX := hX.lt
  have x0 := hX.cell 0 rfl
  have x1 := hX.cell 1 rfl
  have x2 := hX.cell 2 rfl
  have x3 := hX.cell 3 rfl
  have x4 := hX.cell 4 rfl
  have hck := (Chg.refl NoB w1).alloc (.cells #[.int .i64 2, .int .i64 3, .int .i64 4] 3)
  have hkv : Sees (w1.alloc (.cells #[.int .i64 2, .int .i64 3, .int .i64 4] 3)) cellsI (.slice (some ⟨w1.heap.size, 0, none⟩) 3 3) [2, 3, 4] := sees_at (l := [2, 3, 4]) (At.new w1 _ 3)
  have hcw2 := hc.trans hck (by simp [NoB])
  have hhe := heard_yes bc bm me _ _ (h.no hcw2) ⟨kind, frm, dst, p.e.tx, ms⟩ (.slice ao ms.length c) (.slice (some ⟨w1.heap.size, 0, none⟩) 3 3) [2, 3, 4] (hv.no hcw2) hl hkv (by simp) hB
  simp only at hhe
  rw [(h.no hcw2).prs_some] at hhe
  unfold msgV ptr encP at hhe
  simp only at hhe
  have hz : (p.e.phase != 4) = true := by simpa using hp
  go_upto_region 2 with (first | (go_at_call 25; refine hhe.mono ?_; clear hhe; rintro e w2 ⟨rfl, hc2⟩; have hD1 := (hD.chg hck (by simp [NoB])).chg hc2 (by simp [NoB]); have hX1 := (hX.chg hck (by simp [NoB])).chg hc2 (by simp [NoB]); have y1 := fun q : WIn w2 => q.cell (hX1.cell 1 rfl); have hltX := hX1.lt) | fail)
  have h2 := (h.no hcw2).no hc2
  have hcw3 := hcw2.trans hc2 (by simp [NoB])
  have hEH := h2.own p (by simp)
  have hE := hEH.hd
  have e1 := fun q : WIn w2 => q.cell (hE.cell 1 rfl)
  have hlt := hE.lt
  refine wp_region_in w2 (Chg.refl _ _) (by kernel_rfl) (by kernel_rfl) ?_
  repeat (go_big_quiet_step (fail))
  refine wpQuiet_nil ?_
  rintro w3 ⟨⟨w3', hc3⟩, hh⟩
  change w3 = w3' at hh
  subst w3'
  have hD3 := hD1.chg hc3 (by simp [NoB])
  go_wp2_with (first | (refine wpList_deal hD3 rfl _ _ rfl rfl (.slice none 0 0) (0) (0) (.slice none 0 0) (0) rfl IsSl.nil IsSl.nil ?_; intro w4 hD4 hc4 hs4) | fail)
  exact bodyPost_ret (ret_deal rfl rfl hD4) rfl ⟨_, rfl, DealIs.zero _ _, ((hcw2.trans hc2 (by simp [NoB])).trans hc3 (by simp [NoB])).fresh hc4 (by omega)⟩
set_option maxRecDepth 100000 in
set_option maxHeartbeats 800000 in
theorem vote_notaw (bc bm : Nat) (me : Int) (l1 l2 : List Ep) (p : Ep) (w : World) (h : CAt w bc bm me (l1 ++ p :: l2)) (m : Mg) (mv : Value) (hv : Sees w cellsI mv m.ms) (hl : m.ms.length ≤ 1099511627776) (ba : Nat) (hao : p.ao = some ba) (hB : heardB me m [2, 3, 4] = true) (htx : m.tx = p.e.tx) (hp : p.e.phase = 4) (hfr : I64 m.frm) (hna : p.e.aw.contains m.frm = false) : Calls Try.prog 10 #[.pointer (some ⟨bc, 0, none⟩), msgV m mv] w fun e w' => ∃ v, e = .returned v ∧ DealIs w' w.heap.size v noDeal ∧ Chg NoB w w' := by
  obtain ⟨ao, c, rfl⟩ := hv.shape
  obtain ⟨kind, frm, dst, tx, ms⟩ := m
  unfold msgV
  simp only at *
  subst htx
  go_enter Try.func10, Try.ntmps10
  go_upto_region 1 with (fail)
  have hX0 : At (w.alloc (.cells #[.int .i64 kind, .int .i64 frm, .int .i64 dst, .int .i64 p.e.tx, .slice ao ms.length c] 46)) w.heap.size [.int .i64 kind, .int .i64 frm, .int .i64 dst, .int .i64 p.e.tx, .slice ao ms.length c] 46 := At.new w _ _
  have hcX := (Chg.refl NoB w).alloc (.cells #[.int .i64 kind, .int .i64 frm, .int .i64 dst, .int .i64 p.e.tx, .slice ao ms.length c] 46)
  have hsX : (w.alloc (.cells #[.int .i64 kind, .int .i64 frm, .int .i64 dst, .int .i64 p.e.tx, .slice ao ms.length c] 46)).heap.size = w.heap.size + 1 := by simp
  generalize w.alloc (.cells #[.int .i64 kind, .int .i64 frm, .int .i64 dst, .int .i64 p.e.tx, .slice ao ms.length c] 46) = wx at *
  have hD := deal_new wx
  have hX := hX0.chg (deal_chg wx) (by simp [NoB])
  have hc := hcX.trans (deal_chg wx) (by simp [NoB])
  have hszx : wx.heap.size = w.heap.size + 1 := hsX
  generalize wx.alloc (.cells #[.slice none 0 0, .int .i64 0, .int .i64 0, .int .i64 0, .int .i64 0, .string ⟨#[]⟩, .bool false, .string ⟨#[]⟩, .bool false, .string ⟨#[]⟩, .int .i64 0, .slice none 0 0, .slice none 0 0, .slice none 0 0, .slice none 0 0, .slice none 0 0, .slice none 0 0, .int .i64 0] 41) = w1 at *
  rw [hszx] at hD
  clear hX0 hcX hsX hszx
  have hlD := hD.lt
  have hlX := hX.lt
  have x0 := hX.cell 0 rfl
  have x1 := hX.cell 1 rfl
  have x2 := hX.cell 2 rfl
  have x3 := hX.cell 3 rfl
  have x4 := hX.cell 4 rfl
  have hck := (Chg.refl NoB w1).alloc (.cells #[.int .i64 2, .int .i64 3, .int .i64 4] 3)
  have hkv : Sees (w1.alloc (.cells #[.int .i64 2, .int .i64 3, .int .i64 4] 3)) cellsI (.slice (some ⟨w1.heap.size, 0, none⟩) 3 3) [2, 3, 4] := sees_at (l := [2, 3, 4]) (At.new w1 _ 3)
  have hcw2 := hc.trans hck (by simp [NoB])
  have hhe := heard_yes bc bm me _ _ (h.no hcw2) ⟨kind, frm, dst, p.e.tx, ms⟩ (.slice ao ms.length c) (.slice (some ⟨w1.heap.size, 0, none⟩) 3 3) [2, 3, 4] (hv.no hcw2) hl hkv (by simp) hB
  simp only at hhe
  rw [(h.no hcw2).prs_some] at hhe
  unfold msgV ptr encP at hhe
  simp only at hhe
  go_upto_region 2 with (first | (go_at_call 25; refine hhe.mono ?_; clear hhe; rintro e w2 ⟨rfl, hc2⟩; have hD1 := (hD.chg hck (by simp [NoB])).chg hc2 (by simp [NoB]); have hX1 := (hX.chg hck (by simp [NoB])).chg hc2 (by simp [NoB]); have y1 := fun q : WIn w2 => q.cell (hX1.cell 1 rfl); have hltX := hX1.lt) | fail)
  have h2 := (h.no hcw2).no hc2
  have hcw3 := hcw2.trans hc2 (by simp [NoB])
  have hEH := h2.own p (by simp)
  have hE := hEH.hd
  have e1 := fun q : WIn w2 => q.cell (hE.cell 1 rfl)
  have hlt := hE.lt
  rw [hp] at e1
  have hA := hEH.a
  rw [hao] at hA
  have e3 := fun q : WIn w2 => q.cell (hE.cell 3 rfl)
  rw [hao] at e3
  have hlk := fun q : WIn w2 => set_looked (MapIs.chg hA q.h (by simp [NoB])) hfr
  rw [hna] at hlk
  refine wp_region_in w2 (Chg.refl _ _) (by kernel_rfl) (by kernel_rfl) ?_
  repeat (go_big_quiet_step (fail))
  refine wpQuiet_nil ?_
  rintro w3 ⟨⟨w3', hc3⟩, hh⟩
  change w3 = w3' at hh
  subst w3'
  have hD3 := hD1.chg hc3 (by simp [NoB])
  go_wp2_with (first | (refine wpList_deal hD3 rfl _ _ rfl rfl (.slice none 0 0) (0) (0) (.slice none 0 0) (0) rfl IsSl.nil IsSl.nil ?_; intro w4 hD4 hc4 hs4) | fail)
  exact bodyPost_ret (ret_deal rfl rfl hD4) rfl ⟨_, rfl, DealIs.zero _ _, ((hcw2.trans hc2 (by simp [NoB])).trans hc3 (by simp [NoB])).fresh hc4 (by omega)⟩
end Go.Proofs.Ythpnhndligblaaa
