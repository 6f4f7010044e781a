/- The coordinator: Inquire. Conditions: numbers within int. -/
import Derived.Test.YthpnhndligblaaaCi
namespace Go.Proofs.Ythpnhndligblaaa
open Go.RowKit Go.Maps Go.BigFrame
set_option maxRecDepth 100000 in
set_option maxHeartbeats 800000 in
theorem inquire_nil (w : World) (m : Mg) (mv : Value) (hv : Sees w cellsI mv m.ms) (hl : m.ms.length ≤ 1099511627776) : Calls Try.prog 15 #[.pointer none, msgV m mv] w fun e w' => ∃ v, e = .returned v ∧ DealIs w' w.heap.size v noDeal ∧ Chg NoB w w' := by
  obtain ⟨ao, c, rfl⟩ := hv.shape
  obtain ⟨kind, frm, dst, tx, ms⟩ := m
  unfold msgV
  simp only at *
  go_enter Try.func15, Try.ntmps15
  go_upto_region 1 with (fail)
  have hX0 : At (w.alloc (.cells #[.int .i64 kind, .int .i64 frm, .int .i64 dst, .int .i64 tx, .slice ao ms.length c] 46)) w.heap.size [.int .i64 kind, .int .i64 frm, .int .i64 dst, .int .i64 tx, .slice ao ms.length c] 46 := At.new w _ _
  have hcX := (Chg.refl NoB w).alloc (.cells #[.int .i64 kind, .int .i64 frm, .int .i64 dst, .int .i64 tx, .slice ao ms.length c] 46)
  have hsX : (w.alloc (.cells #[.int .i64 kind, .int .i64 frm, .int .i64 dst, .int .i64 tx, .slice ao ms.length c] 46)).heap.size = w.heap.size + 1 := by simp
  generalize w.alloc (.cells #[.int .i64 kind, .int .i64 frm, .int .i64 dst, .int .i64 tx, .slice ao ms.length c] 46) = wx at *
  have hD := deal_new wx
  have hX := hX0.chg (deal_chg wx) (by simp [NoB])
  have hc := hcX.trans (deal_chg wx) (by simp [NoB])
  have hszx : wx.heap.size = w.heap.size + 1 := hsX
  generalize wx.alloc (.cells #[.slice none 0 0, .int .i64 0, .int .i64 0, .int .i64 0, .int .i64 0, .string ⟨#[]⟩, .bool false, .string ⟨#[]⟩, .bool false, .string ⟨#[]⟩, .int .i64 0, .slice none 0 0, .slice none 0 0, .slice none 0 0, .slice none 0 0, .slice none 0 0, .slice none 0 0, .int .i64 0] 41) = w1 at *
  rw [hszx] at hD
  clear hX0 hcX hsX hszx
  have hlD := hD.lt
  have hlX := hX.lt
  have x0 := hX.cell 0 rfl
  have x1 := hX.cell 1 rfl
  have x2 := hX.cell 2 rfl
  have x3 := hX.cell 3 rfl
  have x4 := hX.cell 4 rfl
  have hck := (Chg.refl NoB w1).alloc (.cells #[.int .i64 8] 3)
  have hkv : Sees (w1.alloc (.cells #[.int .i64 8] 3)) cellsI (.slice (some ⟨w1.heap.size, 0, none⟩) 1 1) [8] := sees_at (l := [8]) (At.new w1 _ 3)
  have hcw2 := hc.trans hck (by simp [NoB])
  have hhe := heard_nil ⟨kind, frm, dst, tx, ms⟩ (.slice ao ms.length c) (.slice (some ⟨w1.heap.size, 0, none⟩) 1 1) (w1.alloc (.cells #[.int .i64 8] 3))
  unfold msgV at hhe
  simp only at hhe
  go_upto_region 4 with (first | (go_at_call 25; refine hhe.mono ?_; clear hhe; rintro e w2 ⟨rfl, hc2⟩; have hD1 := (hD.chg hck (by simp [NoB])).chg hc2 (by simp [NoB]); have hX1 := (hX.chg hck (by simp [NoB])).chg hc2 (by simp [NoB]); have hcw3 := hcw2.trans hc2 (by simp [NoB]); have hltX := hX1.lt) | fail)
  have y0 := fun q : WIn w2 => q.cell (hX1.cell 0 rfl)
  have y1 := fun q : WIn w2 => q.cell (hX1.cell 1 rfl)
  have y2 := fun q : WIn w2 => q.cell (hX1.cell 2 rfl)
  have y3 := fun q : WIn w2 => q.cell (hX1.cell 3 rfl)
  have y4 := fun q : WIn w2 => q.cell (hX1.cell 4 rfl)
  refine wp_region_in w2 (Chg.refl _ _) (by kernel_rfl) (by kernel_rfl) ?_
  repeat (go_big_quiet_step (fail))
  refine wpQuiet_nil ?_
  rintro w3 ⟨⟨w3', hc3⟩, hh⟩
  change w3 = w3' at hh
  subst w3'
  clear y0 y1 y2 y3 y4
  have hD3 := hD1.chg hc3 (by simp [NoB])
  go_wp2_with (first | (refine wpList_deal hD3 rfl _ _ rfl rfl (.slice none 0 0) (0) (0) (.slice none 0 0) (0) rfl IsSl.nil IsSl.nil ?_; intro w4 hD4 hc4 hs4) | fail)
  exact bodyPost_ret (ret_deal rfl rfl hD4) rfl ⟨_, rfl, DealIs.zero _ _, (hcw3.trans hc3 (by simp [NoB])).fresh hc4 (by omega)⟩
set_option maxRecDepth 100000 in
set_option maxHeartbeats 800000 in
theorem inquire_deaf (bc : Nat) (mp : Value) (me : Int) (w : World) (hd : At w bc [.int .i64 me, mp] 56) (m : Mg) (mv : Value) (hv : Sees w cellsI mv m.ms) (hl : m.ms.length ≤ 1099511627776) (hB : heardB me m [8] = false) : Calls Try.prog 15 #[.pointer (some ⟨bc, 0, none⟩), msgV m mv] w fun e w' => ∃ v, e = .returned v ∧ DealIs w' w.heap.size v noDeal ∧ Chg NoB w w' := by
  have hcase : mayM m = false ∨ (mayM m = true ∧ (m.dst == me) = false) ∨ (mayM m = true ∧ (m.dst == me) = true ∧ (m.kind == 8) = false) := by
    unfold heardB at hB
    cases h1 : mayM m <;> cases h2 : (m.dst == me) <;> cases h3 : (m.kind == 8) <;> simp_all
  obtain ⟨ao, c, rfl⟩ := hv.shape
  obtain ⟨kind, frm, dst, tx, ms⟩ := m
  unfold msgV
  simp only at *
  go_enter Try.func15, Try.ntmps15
  go_upto_region 1 with (fail)
  have hX0 : At (w.alloc (.cells #[.int .i64 kind, .int .i64 frm, .int .i64 dst, .int .i64 tx, .slice ao ms.length c] 46)) w.heap.size [.int .i64 kind, .int .i64 frm, .int .i64 dst, .int .i64 tx, .slice ao ms.length c] 46 := At.new w _ _
  have hcX := (Chg.refl NoB w).alloc (.cells #[.int .i64 kind, .int .i64 frm, .int .i64 dst, .int .i64 tx, .slice ao ms.length c] 46)
  have hsX : (w.alloc (.cells #[.int .i64 kind, .int .i64 frm, .int .i64 dst, .int .i64 tx, .slice ao ms.length c] 46)).heap.size = w.heap.size + 1 := by simp
  generalize w.alloc (.cells #[.int .i64 kind, .int .i64 frm, .int .i64 dst, .int .i64 tx, .slice ao ms.length c] 46) = wx at *
  have hD := deal_new wx
  have hX := hX0.chg (deal_chg wx) (by simp [NoB])
  have hc := hcX.trans (deal_chg wx) (by simp [NoB])
  have hszx : wx.heap.size = w.heap.size + 1 := hsX
  generalize wx.alloc (.cells #[.slice none 0 0, .int .i64 0, .int .i64 0, .int .i64 0, .int .i64 0, .string ⟨#[]⟩, .bool false, .string ⟨#[]⟩, .bool false, .string ⟨#[]⟩, .int .i64 0, .slice none 0 0, .slice none 0 0, .slice none 0 0, .slice none 0 0, .slice none 0 0, .slice none 0 0, .int .i64 0] 41) = w1 at *
  rw [hszx] at hD
  clear hX0 hcX hsX hszx
  have hlD := hD.lt
  have hlX := hX.lt
  have x0 := hX.cell 0 rfl
  have x1 := hX.cell 1 rfl
  have x2 := hX.cell 2 rfl
  have x3 := hX.cell 3 rfl
  have x4 := hX.cell 4 rfl
  have hck := (Chg.refl NoB w1).alloc (.cells #[.int .i64 8] 3)
  have hkv : Sees (w1.alloc (.cells #[.int .i64 8] 3)) cellsI (.slice (some ⟨w1.heap.size, 0, none⟩) 1 1) [8] := sees_at (l := [8]) (At.new w1 _ 3)
  have hcw2 := hc.trans hck (by simp [NoB])
  have hhe := heard_no bc mp me _ ⟨kind, frm, dst, tx, ms⟩ (.slice ao ms.length c) (.slice (some ⟨w1.heap.size, 0, none⟩) 1 1) [8] (hd.chg hcw2 (by simp [NoB])) (hv.no hcw2) hl hkv (by simp) hB
  unfold msgV at hhe
  simp only at hhe
  have HC := Lib.hid hcase
  clear hcase
  go_upto_region 4 with (first | (go_at_call 25; refine hhe.mono ?_; clear hhe; rintro e w2 ⟨rfl, hc2⟩; have hD1 := (hD.chg hck (by simp [NoB])).chg hc2 (by simp [NoB]); have hX1 := (hX.chg hck (by simp [NoB])).chg hc2 (by simp [NoB]); have hcw3 := hcw2.trans hc2 (by simp [NoB]); have hltX := hX1.lt) | fail)
  rcases HC.out with hA | ⟨hA, hDm⟩ | ⟨hA, hDm, hK⟩
  ·   have y0 := fun q : WIn w2 => q.cell (hX1.cell 0 rfl)
      have y1 := fun q : WIn w2 => q.cell (hX1.cell 1 rfl)
      have y2 := fun q : WIn w2 => q.cell (hX1.cell 2 rfl)
      have y3 := fun q : WIn w2 => q.cell (hX1.cell 3 rfl)
      have y4 := fun q : WIn w2 => q.cell (hX1.cell 4 rfl)
      have m1 := fun q : WIn w2 => msgmay_any ⟨kind, frm, dst, tx, ms⟩ _ q.w (hv.no (hcw3.trans q.h (by simp [NoB]))) hl
      unfold msgV at m1
      simp only at m1
      have hd2 := hd.chg hcw3 (by simp [NoB])
      have z0 := fun q : WIn w2 => q.cell (hd2.cell 0 rfl)
      have hltc := hd2.lt
      rw [hA] at m1
      refine wp_region_in w2 (Chg.refl _ _) (by kernel_rfl) (by kernel_rfl) ?_
      repeat (go_big_quiet_step (exact Calls.in_of (m1 _)))
      refine wpQuiet_nil ?_
      rintro w3 ⟨⟨w3', hc3⟩, hh⟩
      change w3 = w3' at hh
      subst w3'
      clear y0 y1 y2 y3 y4
      have hD3 := hD1.chg hc3 (by simp [NoB])
      go_wp2_with (first | (refine wpList_deal hD3 rfl _ _ rfl rfl (.slice none 0 0) (0) (0) (.slice none 0 0) (0) rfl IsSl.nil IsSl.nil ?_; intro w4 hD4 hc4 hs4) | fail)
      exact bodyPost_ret (ret_deal rfl rfl hD4) rfl ⟨_, rfl, DealIs.zero _ _, (hcw3.trans hc3 (by simp [NoB])).fresh hc4 (by omega)⟩
  ·   have y0 := fun q : WIn w2 => q.cell (hX1.cell 0 rfl)
      have y1 := fun q : WIn w2 => q.cell (hX1.cell 1 rfl)
      have y2 := fun q : WIn w2 => q.cell (hX1.cell 2 rfl)
      have y3 := fun q : WIn w2 => q.cell (hX1.cell 3 rfl)
      have y4 := fun q : WIn w2 => q.cell (hX1.cell 4 rfl)
      have m1 := fun q : WIn w2 => msgmay_any ⟨kind, frm, dst, tx, ms⟩ _ q.w (hv.no (hcw3.trans q.h (by simp [NoB]))) hl
      unfold msgV at m1
      simp only at m1
      have hd2 := hd.chg hcw3 (by simp [NoB])
      have z0 := fun q : WIn w2 => q.cell (hd2.cell 0 rfl)
      have hltc := hd2.lt
      rw [hA] at m1
      have hD2 : (dst != me) = true := by simp [bne, hDm]
      refine wp_region_in w2 (Chg.refl _ _) (by kernel_rfl) (by kernel_rfl) ?_
      repeat (go_big_quiet_step (exact Calls.in_of (m1 _)))
      refine wpQuiet_nil ?_
      rintro w3 ⟨⟨w3', hc3⟩, hh⟩
      change w3 = w3' at hh
      subst w3'
      clear y0 y1 y2 y3 y4
      have hD3 := hD1.chg hc3 (by simp [NoB])
      go_wp2_with (first | (refine wpList_deal hD3 rfl _ _ rfl rfl (.slice none 0 0) (0) (0) (.slice none 0 0) (0) rfl IsSl.nil IsSl.nil ?_; intro w4 hD4 hc4 hs4) | fail)
      exact bodyPost_ret (ret_deal rfl rfl hD4) rfl ⟨_, rfl, DealIs.zero _ _, (hcw3.trans hc3 (by simp [NoB])).fresh hc4 (by omega)⟩
  ·   have y0 := fun q : WIn w2 => q.cell (hX1.cell 0 rfl)
      have y1 := fun q : WIn w2 => q.cell (hX1.cell 1 rfl)
      have y2 := fun q : WIn w2 => q.cell (hX1.cell 2 rfl)
      have y3 := fun q : WIn w2 => q.cell (hX1.cell 3 rfl)
      have y4 := fun q : WIn w2 => q.cell (hX1.cell 4 rfl)
      have m1 := fun q : WIn w2 => msgmay_any ⟨kind, frm, dst, tx, ms⟩ _ q.w (hv.no (hcw3.trans q.h (by simp [NoB]))) hl
      unfold msgV at m1
      simp only at m1
      have hd2 := hd.chg hcw3 (by simp [NoB])
      have z0 := fun q : WIn w2 => q.cell (hd2.cell 0 rfl)
      have hltc := hd2.lt
      rw [hA] at m1
      have hD2 : (dst != me) = false := by simp [bne, hDm]
      have hK2 : (kind != 8) = true := by simp [bne, hK]
      refine wp_region_in w2 (Chg.refl _ _) (by kernel_rfl) (by kernel_rfl) ?_
      repeat (go_big_quiet_step (exact Calls.in_of (m1 _)))
      refine wpQuiet_nil ?_
      rintro w3 ⟨⟨w3', hc3⟩, hh⟩
      change w3 = w3' at hh
      subst w3'
      clear y0 y1 y2 y3 y4
      have hD3 := hD1.chg hc3 (by simp [NoB])
      go_wp2_with (first | (refine wpList_deal hD3 rfl _ _ rfl rfl (.slice none 0 0) (0) (0) (.slice none 0 0) (0) rfl IsSl.nil IsSl.nil ?_; intro w4 hD4 hc4 hs4) | fail)
      exact bodyPost_ret (ret_deal rfl rfl hD4) rfl ⟨_, rfl, DealIs.zero _ _, (hcw3.trans hc3 (by simp [NoB])).fresh hc4 (by omega)⟩
set_option maxRecDepth 100000 in
set_option maxHeartbeats 800000 in
theorem inquire_unsure (bc bm : Nat) (me : Int) (l1 l2 : List Ep) (p : Ep) (w : World) (h : CAt w bc bm me (l1 ++ p :: l2)) (m : Mg) (mv : Value) (hv : Sees w cellsI mv m.ms) (hl : m.ms.length ≤ 1099511627776) (hB : heardB me m [8] = true) (htx : m.tx = p.e.tx) (hsu : p.e.sure = false) : Calls Try.prog 15 #[.pointer (some ⟨bc, 0, none⟩), msgV m mv] w fun e w' => ∃ v, e = .returned v ∧ DealIs w' w.heap.size v noDeal ∧ Chg NoB w w' := by
  obtain ⟨ao, c, rfl⟩ := hv.shape
  obtain ⟨kind, frm, dst, tx, ms⟩ := m
  unfold msgV
  simp only at *
  subst htx
  go_enter Try.func15, Try.ntmps15
  go_upto_region 1 with (fail)
  have hX0 : At (w.alloc (.cells #[.int .i64 kind, .int .i64 frm, .int .i64 dst, .int .i64 p.e.tx, .slice ao ms.length c] 46)) w.heap.size [.int .i64 kind, .int .i64 frm, .int .i64 dst, .int .i64 p.e.tx, .slice ao ms.length c] 46 := At.new w _ _
  have hcX := (Chg.refl NoB w).alloc (.cells #[.int .i64 kind, .int .i64 frm, .int .i64 dst, .int .i64 p.e.tx, .slice ao ms.length c] 46)
  have hsX : (w.alloc (.cells #[.int .i64 kind, .int .i64 frm, .int .i64 dst, .int .i64 p.e.tx, .slice ao ms.length c] 46)).heap.size = w.heap.size + 1 := by simp
  generalize w.alloc (.cells #[.int .i64 kind, .int .i64 frm, .int .i64 dst, .int .i64 p.e.tx, .slice ao ms.length c] 46) = wx at *
  have hD := deal_new wx
  have hX := hX0.chg (deal_chg wx) (by simp [NoB])
  have hc := hcX.trans (deal_chg wx) (by simp [NoB])
  have hszx : wx.heap.size = w.heap.size + 1 := hsX
  generalize wx.alloc (.cells #[.slice none 0 0, .int .i64 0, .int .i64 0, .int .i64 0, .int .i64 0, .string ⟨#[]⟩, .bool false, .string ⟨#[]⟩, .bool false, .string ⟨#[]⟩, .int .i64 0, .slice none 0 0, .slice none 0 0, .slice none 0 0, .slice none 0 0, .slice none 0 0, .slice none 0 0, .int .i64 0] 41) = w1 at *
  rw [hszx] at hD
  clear hX0 hcX hsX hszx
  have hlD := hD.lt
  have hlX := hX.lt
  have x0 := hX.cell 0 rfl
  have x1 := hX.cell 1 rfl
  have x2 := hX.cell 2 rfl
  have x3 := hX.cell 3 rfl
  have x4 := hX.cell 4 rfl
  have hck := (Chg.refl NoB w1).alloc (.cells #[.int .i64 8] 3)
  have hkv : Sees (w1.alloc (.cells #[.int .i64 8] 3)) cellsI (.slice (some ⟨w1.heap.size, 0, none⟩) 1 1) [8] := sees_at (l := [8]) (At.new w1 _ 3)
  have hcw2 := hc.trans hck (by simp [NoB])
  have hhe := heard_yes bc bm me _ _ (h.no hcw2) ⟨kind, frm, dst, p.e.tx, ms⟩ (.slice ao ms.length c) (.slice (some ⟨w1.heap.size, 0, none⟩) 1 1) [8] (hv.no hcw2) hl hkv (by simp) hB
  simp only at hhe
  rw [(h.no hcw2).prs_some] at hhe
  unfold msgV ptr encP at hhe
  simp only at hhe
  go_upto_region 4 with (first | (go_at_call 25; refine hhe.mono ?_; clear hhe; rintro e w2 ⟨rfl, hc2⟩; have hD1 := (hD.chg hck (by simp [NoB])).chg hc2 (by simp [NoB]); have hX1 := (hX.chg hck (by simp [NoB])).chg hc2 (by simp [NoB]); have hcw3 := hcw2.trans hc2 (by simp [NoB]); have hltX := hX1.lt; have h1 := (h.no hcw2).no hc2; have hEH := h1.own p (by simp); have hE := hEH.hd; have e5 := hE.cell 5 rfl; have hlt := hE.lt; rw [hsu] at e5) | fail)
  have y0 := fun q : WIn w2 => q.cell (hX1.cell 0 rfl)
  have y1 := fun q : WIn w2 => q.cell (hX1.cell 1 rfl)
  have y2 := fun q : WIn w2 => q.cell (hX1.cell 2 rfl)
  have y3 := fun q : WIn w2 => q.cell (hX1.cell 3 rfl)
  have y4 := fun q : WIn w2 => q.cell (hX1.cell 4 rfl)
  refine wp_region_in w2 (Chg.refl _ _) (by kernel_rfl) (by kernel_rfl) ?_
  repeat (go_big_quiet_step (fail))
  refine wpQuiet_nil ?_
  rintro w3 ⟨⟨w3', hc3⟩, hh⟩
  change w3 = w3' at hh
  subst w3'
  clear y0 y1 y2 y3 y4
  have hD3 := hD1.chg hc3 (by simp [NoB])
  go_wp2_with (first | (refine wpList_deal hD3 rfl _ _ rfl rfl (.slice none 0 0) (0) (0) (.slice none 0 0) (0) rfl IsSl.nil IsSl.nil ?_; intro w4 hD4 hc4 hs4) | fail)
  exact bodyPost_ret (ret_deal rfl rfl hD4) rfl ⟨_, rfl, DealIs.zero _ _, (hcw3.trans hc3 (by simp [NoB])).fresh hc4 (by omega)⟩
set_option maxRecDepth 100000 in
set_option maxHeartbeats 800000 in
theorem inquire_sure (bc bm : Nat) (me : Int) (l1 l2 : List Ep) (p : Ep) (w : World) (h : CAt w bc bm me (l1 ++ p :: l2)) (m : Mg) (mv : Value) (hv : Sees w cellsI mv m.ms) (hl : m.ms.length ≤ 1099511627776) (hB : heardB me m [8] = true) (htx : m.tx = p.e.tx) (hsu : p.e.sure = true) (hml : p.e.mem.length ≤ 1099511627776) : Calls Try.prog 15 #[.pointer (some ⟨bc, 0, none⟩), msgV m mv] w fun e w' => ∃ v, e = .returned v ∧ DealIs w' w.heap.size v ⟨toM 5 me p.e.tx p.e.mem [m.frm], 0, 0, [], 0⟩ ∧ Chg NoB w w' := by
  obtain ⟨ao, c, rfl⟩ := hv.shape
  obtain ⟨kind, frm, dst, tx, ms⟩ := m
  unfold msgV
  simp only at *
  subst htx
  go_enter Try.func15, Try.ntmps15
  go_upto_region 1 with (fail)
  have hX0 : At (w.alloc (.cells #[.int .i64 kind, .int .i64 frm, .int .i64 dst, .int .i64 p.e.tx, .slice ao ms.length c] 46)) w.heap.size [.int .i64 kind, .int .i64 frm, .int .i64 dst, .int .i64 p.e.tx, .slice ao ms.length c] 46 := At.new w _ _
  have hcX := (Chg.refl NoB w).alloc (.cells #[.int .i64 kind, .int .i64 frm, .int .i64 dst, .int .i64 p.e.tx, .slice ao ms.length c] 46)
  have hsX : (w.alloc (.cells #[.int .i64 kind, .int .i64 frm, .int .i64 dst, .int .i64 p.e.tx, .slice ao ms.length c] 46)).heap.size = w.heap.size + 1 := by simp
  generalize w.alloc (.cells #[.int .i64 kind, .int .i64 frm, .int .i64 dst, .int .i64 p.e.tx, .slice ao ms.length c] 46) = wx at *
  have hD := deal_new wx
  have hX := hX0.chg (deal_chg wx) (by simp [NoB])
  have hc := hcX.trans (deal_chg wx) (by simp [NoB])
  have hszx : wx.heap.size = w.heap.size + 1 := hsX
  generalize wx.alloc (.cells #[.slice none 0 0, .int .i64 0, .int .i64 0, .int .i64 0, .int .i64 0, .string ⟨#[]⟩, .bool false, .string ⟨#[]⟩, .bool false, .string ⟨#[]⟩, .int .i64 0, .slice none 0 0, .slice none 0 0, .slice none 0 0, .slice none 0 0, .slice none 0 0, .slice none 0 0, .int .i64 0] 41) = w1 at *
  rw [hszx] at hD
  clear hX0 hcX hsX hszx
  have hlD := hD.lt
  have hlX := hX.lt
  have x0 := hX.cell 0 rfl
  have x1 := hX.cell 1 rfl
  have x2 := hX.cell 2 rfl
  have x3 := hX.cell 3 rfl
  have x4 := hX.cell 4 rfl
  have hck := (Chg.refl NoB w1).alloc (.cells #[.int .i64 8] 3)
  have hkv : Sees (w1.alloc (.cells #[.int .i64 8] 3)) cellsI (.slice (some ⟨w1.heap.size, 0, none⟩) 1 1) [8] := sees_at (l := [8]) (At.new w1 _ 3)
  have hcw2 := hc.trans hck (by simp [NoB])
  have hhe := heard_yes bc bm me _ _ (h.no hcw2) ⟨kind, frm, dst, p.e.tx, ms⟩ (.slice ao ms.length c) (.slice (some ⟨w1.heap.size, 0, none⟩) 1 1) [8] (hv.no hcw2) hl hkv (by simp) hB
  simp only at hhe
  rw [(h.no hcw2).prs_some] at hhe
  unfold msgV ptr encP at hhe
  simp only at hhe
  go_upto_region 3 with (first | (go_at_call 25; refine hhe.mono ?_; clear hhe; rintro e w2 ⟨rfl, hc2⟩; have hD1 := (hD.chg hck (by simp [NoB])).chg hc2 (by simp [NoB]); have hX1 := (hX.chg hck (by simp [NoB])).chg hc2 (by simp [NoB]); have hcw3 := hcw2.trans hc2 (by simp [NoB]); have hltX := hX1.lt; have h1 := (h.no hcw2).no hc2; have hEH := h1.own p (by simp); have hE := hEH.hd; have e5 := hE.cell 5 rfl; have hlt := hE.lt; rw [hsu] at e5) | fail)
  have hca := (Chg.refl NoB w2).alloc (.cells #[.int .i64 frm] 3)
  have x1' : w2.cell? ⟨w.heap.size, 1, none⟩ = some (.int .i64 frm) := hX1.cell 1 rfl
  have hto := to_any bc (.map (some bm)) me 5 p (.slice (some ⟨w2.heap.size, 0, none⟩) 1 1) [frm] (w2.alloc (.cells #[.int .i64 frm] 3)) (h1.hd.chg hca (by simp [NoB])) (hE.chg hca (by simp [NoB])) ((Sees.of_row hEH.m).no hca) (sees_at (l := [frm]) (At.new w2 [.int .i64 frm] 3)) hml (by simp)
  have hD2 := hD1.chg hca (by simp [NoB])
  go_wp2_with (first | (go_at_call 24; refine hto.mono ?_; clear hto; rintro e w5 ⟨v5, rfl, hM5, hc5⟩; obtain ⟨a5, n5, k5, rfl⟩ := hM5.isSl; have hD5 := hD2.chg hc5 (by simp [NoB])) | (refine wpList_deal hD5 rfl _ _ rfl rfl (.slice a5 n5 k5) (0) (0) (.slice none 0 0) (0) rfl ⟨_, _, _, rfl⟩ IsSl.nil ?_; intro w6 hD6 hc6 hs6) | fail)
  have hs5 := hcw3.size
  have hsa := hca.size
  have hlD2 := hD2.lt
  exact bodyPost_ret (ret_deal rfl rfl hD6) rfl ⟨_, rfl, ⟨.slice a5 n5 k5, .slice none 0 0, rfl, (hM5.chg hc6 (fun k hk e => by omega)).mono (by omega), RowOf.nil _ _⟩, ((hcw3.trans hca (by simp [NoB])).trans hc5 (by simp [NoB])).fresh hc6 (by omega)⟩
set_option maxRecDepth 100000 in
set_option maxHeartbeats 800000 in
theorem inquire_other (bc bm : Nat) (me : Int) (l : List Ep) (w : World) (h : CAt w bc bm me l) (m : Mg) (mv : Value) (hv : Sees w cellsI mv m.ms) (hl : m.ms.length ≤ 1099511627776) (hB : heardB me m [8] = true) (hno : m.tx ∉ l.map (·.e.tx)) (hmi : mineB me m.tx = false) : Calls Try.prog 15 #[.pointer (some ⟨bc, 0, none⟩), msgV m mv] w fun e w' => ∃ v, e = .returned v ∧ DealIs w' w.heap.size v noDeal ∧ Chg NoB w w' := by
  obtain ⟨ao, c, rfl⟩ := hv.shape
  obtain ⟨kind, frm, dst, tx, ms⟩ := m
  unfold msgV
  simp only at *
  go_enter Try.func15, Try.ntmps15
  go_upto_region 1 with (fail)
  have hX0 : At (w.alloc (.cells #[.int .i64 kind, .int .i64 frm, .int .i64 dst, .int .i64 tx, .slice ao ms.length c] 46)) w.heap.size [.int .i64 kind, .int .i64 frm, .int .i64 dst, .int .i64 tx, .slice ao ms.length c] 46 := At.new w _ _
  have hcX := (Chg.refl NoB w).alloc (.cells #[.int .i64 kind, .int .i64 frm, .int .i64 dst, .int .i64 tx, .slice ao ms.length c] 46)
  have hsX : (w.alloc (.cells #[.int .i64 kind, .int .i64 frm, .int .i64 dst, .int .i64 tx, .slice ao ms.length c] 46)).heap.size = w.heap.size + 1 := by simp
  generalize w.alloc (.cells #[.int .i64 kind, .int .i64 frm, .int .i64 dst, .int .i64 tx, .slice ao ms.length c] 46) = wx at *
  have hD := deal_new wx
  have hX := hX0.chg (deal_chg wx) (by simp [NoB])
  have hc := hcX.trans (deal_chg wx) (by simp [NoB])
  have hszx : wx.heap.size = w.heap.size + 1 := hsX
  generalize wx.alloc (.cells #[.slice none 0 0, .int .i64 0, .int .i64 0, .int .i64 0, .int .i64 0, .string ⟨#[]⟩, .bool false, .string ⟨#[]⟩, .bool false, .string ⟨#[]⟩, .int .i64 0, .slice none 0 0, .slice none 0 0, .slice none 0 0, .slice none 0 0, .slice none 0 0, .slice none 0 0, .int .i64 0] 41) = w1 at *
  rw [hszx] at hD
  clear hX0 hcX hsX hszx
  have hlD := hD.lt
  have hlX := hX.lt
  have x0 := hX.cell 0 rfl
  have x1 := hX.cell 1 rfl
  have x2 := hX.cell 2 rfl
  have x3 := hX.cell 3 rfl
  have x4 := hX.cell 4 rfl
  have hck := (Chg.refl NoB w1).alloc (.cells #[.int .i64 8] 3)
  have hkv : Sees (w1.alloc (.cells #[.int .i64 8] 3)) cellsI (.slice (some ⟨w1.heap.size, 0, none⟩) 1 1) [8] := sees_at (l := [8]) (At.new w1 _ 3)
  have hcw2 := hc.trans hck (by simp [NoB])
  have hhe := heard_yes bc bm me l _ (h.no hcw2) ⟨kind, frm, dst, tx, ms⟩ (.slice ao ms.length c) (.slice (some ⟨w1.heap.size, 0, none⟩) 1 1) [8] (hv.no hcw2) hl hkv (by simp) hB
  simp only at hhe
  rw [prs_none hno] at hhe
  unfold msgV ptr at hhe
  simp only at hhe
  have hh : mayM ⟨kind, frm, dst, tx, ms⟩ = true ∧ (dst == me) = true ∧ (kind == 8) = true := by
    unfold heardB at hB
    simpa [and_assoc] using hB
  obtain ⟨hA, hDm, hK⟩ := hh
  have hD2 : (dst != me) = false := by simp [bne, hDm]
  have hK2 : (kind != 8) = false := by simp [bne, hK]
  have hA' := Lib.hid hA
  have hd := h.hd
  clear hA hB
  go_upto_region 4 with (first | (go_at_call 25; refine hhe.mono ?_; clear hhe; rintro e w2 ⟨rfl, hc2⟩; have hD1 := (hD.chg hck (by simp [NoB])).chg hc2 (by simp [NoB]); have hX1 := (hX.chg hck (by simp [NoB])).chg hc2 (by simp [NoB]); have hcw3 := hcw2.trans hc2 (by simp [NoB]); have hltX := hX1.lt) | fail)
  have y0 := fun q : WIn w2 => q.cell (hX1.cell 0 rfl)
  have y1 := fun q : WIn w2 => q.cell (hX1.cell 1 rfl)
  have y2 := fun q : WIn w2 => q.cell (hX1.cell 2 rfl)
  have y3 := fun q : WIn w2 => q.cell (hX1.cell 3 rfl)
  have y4 := fun q : WIn w2 => q.cell (hX1.cell 4 rfl)
  have m1 := fun q : WIn w2 => msgmay_any ⟨kind, frm, dst, tx, ms⟩ _ q.w (hv.no (hcw3.trans q.h (by simp [NoB]))) hl
  unfold msgV at m1
  simp only at m1
  rw [hA'.out] at m1
  have hd2 := hd.chg hcw3 (by simp [NoB])
  have z0 := fun q : WIn w2 => q.cell (hd2.cell 0 rfl)
  have hltc := hd2.lt
  have m2 := fun q : WIn w2 => mine_any bc _ me tx q.w (hd2.chg q.h (by simp [NoB]))
  rw [hmi] at m2
  refine wp_region_in w2 (Chg.refl _ _) (by kernel_rfl) (by kernel_rfl) ?_
  repeat (go_big_quiet_step (first | exact Calls.in_of (m1 _) | exact Calls.in_of (m2 _)))
  refine wpQuiet_nil ?_
  rintro w3 ⟨⟨w3', hc3⟩, hh⟩
  change w3 = w3' at hh
  subst w3'
  clear y0 y1 y2 y3 y4
  have hD3 := hD1.chg hc3 (by simp [NoB])
  go_wp2_with (first | (refine wpList_deal hD3 rfl _ _ rfl rfl (.slice none 0 0) (0) (0) (.slice none 0 0) (0) rfl IsSl.nil IsSl.nil ?_; intro w4 hD4 hc4 hs4) | fail)
  exact bodyPost_ret (ret_deal rfl rfl hD4) rfl ⟨_, rfl, DealIs.zero _ _, (hcw3.trans hc3 (by simp [NoB])).fresh hc4 (by omega)⟩
set_option maxRecDepth 100000 in
set_option maxHeartbeats 800000 in
theorem inquire_gone (bc bm : Nat) (me : Int) (l : List Ep) (w : World) (h : CAt w bc bm me l) (m : Mg) (mv : Value) (hv : Sees w cellsI mv m.ms) (hl : m.ms.length ≤ 1099511627776) (hB : heardB me m [8] = true) (hno : m.tx ∉ l.map (·.e.tx)) (hmi : mineB me m.tx = true) : Calls Try.prog 15 #[.pointer (some ⟨bc, 0, none⟩), msgV m mv] w fun e w' => ∃ v, e = .returned v ∧ DealIs w' w.heap.size v ⟨toM 6 me m.tx [] [m.frm], 0, 0, [], 0⟩ ∧ Chg NoB w w' := by
  obtain ⟨ao, c, rfl⟩ := hv.shape
  obtain ⟨kind, frm, dst, tx, ms⟩ := m
  unfold msgV
  simp only at *
  go_enter Try.func15, Try.ntmps15
  go_upto_region 1 with (fail)
  have hX0 : At (w.alloc (.cells #[.int .i64 kind, .int .i64 frm, .int .i64 dst, .int .i64 tx, .slice ao ms.length c] 46)) w.heap.size [.int .i64 kind, .int .i64 frm, .int .i64 dst, .int .i64 tx, .slice ao ms.length c] 46 := At.new w _ _
  have hcX := (Chg.refl NoB w).alloc (.cells #[.int .i64 kind, .int .i64 frm, .int .i64 dst, .int .i64 tx, .slice ao ms.length c] 46)
  have hsX : (w.alloc (.cells #[.int .i64 kind, .int .i64 frm, .int .i64 dst, .int .i64 tx, .slice ao ms.length c] 46)).heap.size = w.heap.size + 1 := by simp
  generalize w.alloc (.cells #[.int .i64 kind, .int .i64 frm, .int .i64 dst, .int .i64 tx, .slice ao ms.length c] 46) = wx at *
  have hD := deal_new wx
  have hX := hX0.chg (deal_chg wx) (by simp [NoB])
  have hc := hcX.trans (deal_chg wx) (by simp [NoB])
  have hszx : wx.heap.size = w.heap.size + 1 := hsX
  generalize wx.alloc (.cells #[.slice none 0 0, .int .i64 0, .int .i64 0, .int .i64 0, .int .i64 0, .string ⟨#[]⟩, .bool false, .string ⟨#[]⟩, .bool false, .string ⟨#[]⟩, .int .i64 0, .slice none 0 0, .slice none 0 0, .slice none 0 0, .slice none 0 0, .slice none 0 0, .slice none 0 0, .int .i64 0] 41) = w1 at *
  rw [hszx] at hD
  clear hX0 hcX hsX hszx
  have hlD := hD.lt
  have hlX := hX.lt
  have x0 := hX.cell 0 rfl
  have x1 := hX.cell 1 rfl
  have x2 := hX.cell 2 rfl
  have x3 := hX.cell 3 rfl
  have x4 := hX.cell 4 rfl
  have hck := (Chg.refl NoB w1).alloc (.cells #[.int .i64 8] 3)
  have hkv : Sees (w1.alloc (.cells #[.int .i64 8] 3)) cellsI (.slice (some ⟨w1.heap.size, 0, none⟩) 1 1) [8] := sees_at (l := [8]) (At.new w1 _ 3)
  have hcw2 := hc.trans hck (by simp [NoB])
  have hhe := heard_yes bc bm me l _ (h.no hcw2) ⟨kind, frm, dst, tx, ms⟩ (.slice ao ms.length c) (.slice (some ⟨w1.heap.size, 0, none⟩) 1 1) [8] (hv.no hcw2) hl hkv (by simp) hB
  simp only at hhe
  rw [prs_none hno] at hhe
  unfold msgV ptr at hhe
  simp only at hhe
  have hh : mayM ⟨kind, frm, dst, tx, ms⟩ = true ∧ (dst == me) = true ∧ (kind == 8) = true := by
    unfold heardB at hB
    simpa [and_assoc] using hB
  obtain ⟨hA, hDm, hK⟩ := hh
  have hD2 : (dst != me) = false := by simp [bne, hDm]
  have hK2 : (kind != 8) = false := by simp [bne, hK]
  have hA' := Lib.hid hA
  have hd := h.hd
  clear hA hB
  go_upto_region 4 with (first | (go_at_call 25; refine hhe.mono ?_; clear hhe; rintro e w2 ⟨rfl, hc2⟩; have hD1 := (hD.chg hck (by simp [NoB])).chg hc2 (by simp [NoB]); have hX1 := (hX.chg hck (by simp [NoB])).chg hc2 (by simp [NoB]); have hcw3 := hcw2.trans hc2 (by simp [NoB]); have hltX := hX1.lt) | fail)
  have y0 := fun q : WIn w2 => q.cell (hX1.cell 0 rfl)
  have y1 := fun q : WIn w2 => q.cell (hX1.cell 1 rfl)
  have y2 := fun q : WIn w2 => q.cell (hX1.cell 2 rfl)
  have y3 := fun q : WIn w2 => q.cell (hX1.cell 3 rfl)
  have y4 := fun q : WIn w2 => q.cell (hX1.cell 4 rfl)
  have m1 := fun q : WIn w2 => msgmay_any ⟨kind, frm, dst, tx, ms⟩ _ q.w (hv.no (hcw3.trans q.h (by simp [NoB]))) hl
  unfold msgV at m1
  simp only at m1
  rw [hA'.out] at m1
  have hd2 := hd.chg hcw3 (by simp [NoB])
  have z0 := fun q : WIn w2 => q.cell (hd2.cell 0 rfl)
  have hltc := hd2.lt
  have m2 := fun q : WIn w2 => mine_any bc _ me tx q.w (hd2.chg q.h (by simp [NoB]))
  rw [hmi] at m2
  refine wp_region_in w2 (Chg.refl _ _) (by kernel_rfl) (by kernel_rfl) ?_
  repeat (go_big_quiet_step (first | exact Calls.in_of (m1 _) | exact Calls.in_of (m2 _)))
  refine wpQuiet_nil ?_
  rintro w3 ⟨⟨w3', hc3⟩, hh⟩
  change w3 = w3' at hh
  subst w3'
  clear y0 y1 y2 y3 y4
  go_upto_region 6 with (fail)
  have hcw4 := hcw3.trans hc3 (by simp [NoB])
  have hX3 := hX1.chg hc3 (by simp [NoB])
  have hD3 := hD1.chg hc3 (by simp [NoB])
  have hd3 := hd2.chg hc3 (by simp [NoB])
  have t1 := hX3.cell 1 rfl
  have t3 := hX3.cell 3 rfl
  have hltX3 := hX3.lt
  have hce := (Chg.refl NoB w3).alloc (.cells #[.int .i64 tx, .int .i64 0, .slice none 0 0, .map none, .slice none 0 0, .bool false] 61)
  have hE4 : At (w3.alloc (.cells #[.int .i64 tx, .int .i64 0, .slice none 0 0, .map none, .slice none 0 0, .bool false] 61)) w3.heap.size (cellsE ⟨⟨tx, 0, [], [], [], false⟩, w3.heap.size, .slice none 0 0, none, .slice none 0 0⟩) 61 := At.new w3 [.int .i64 tx, .int .i64 0, .slice none 0 0, .map none, .slice none 0 0, .bool false] 61
  have t1' := (hX3.chg hce (by simp [NoB])).cell 1 rfl
  have hlX4 := (hX3.chg hce (by simp [NoB])).lt
  have hce2 := (Chg.refl NoB (w3.alloc (.cells #[.int .i64 tx, .int .i64 0, .slice none 0 0, .map none, .slice none 0 0, .bool false] 61))).alloc (.cells #[.int .i64 frm] 3)
  have hsz : (w3.alloc (.cells #[.int .i64 tx, .int .i64 0, .slice none 0 0, .map none, .slice none 0 0, .bool false] 61)).heap.size = w3.heap.size + 1 := by simp
  have hto := to_any bc (.map (some bm)) me 6 ⟨⟨tx, 0, [], [], [], false⟩, w3.heap.size, .slice none 0 0, none, .slice none 0 0⟩ (.slice (some ⟨w3.heap.size + 1, 0, none⟩) 1 1) [frm] ((w3.alloc (.cells #[.int .i64 tx, .int .i64 0, .slice none 0 0, .map none, .slice none 0 0, .bool false] 61)).alloc (.cells #[.int .i64 frm] 3)) ((hd3.chg hce (by simp [NoB])).chg hce2 (by simp [NoB])) (hE4.chg hce2 (by simp [NoB])) (Sees.nil _) (by rw [← hsz]; exact sees_at (l := [frm]) (At.new _ [.int .i64 frm] 3)) (by simp) (by simp)
  simp only at hto
  have hcA := (hcw4.trans hce (by simp [NoB])).trans hce2 (by simp [NoB])
  have hD4 := (hD3.chg hce (by simp [NoB])).chg hce2 (by simp [NoB])
  clear hE4 hce hce2 hX3 hd3 hD3
  go_wp2_with (first | (go_at_call 24; refine hto.mono ?_; clear hto; rintro e w5 ⟨v5, rfl, hM5, hc5⟩; obtain ⟨a5, n5, k5, rfl⟩ := hM5.isSl; have hD5 := hD4.chg hc5 (by simp [NoB])) | (refine wpList_deal hD5 rfl _ _ rfl rfl (.slice a5 n5 k5) (0) (0) (.slice none 0 0) (0) rfl ⟨_, _, _, rfl⟩ IsSl.nil ?_; intro w6 hD6 hc6 hs6) | fail)
  have hsA := hcA.size
  exact bodyPost_ret (ret_deal rfl rfl hD6) rfl ⟨_, rfl, ⟨.slice a5 n5 k5, .slice none 0 0, rfl, (hM5.chg hc6 (fun k hk e => by simp at hk; omega)).mono (by omega), RowOf.nil _ _⟩, (hcA.trans hc5 (by simp [NoB])).fresh hc6 (by omega)⟩
end Go.Proofs.Ythpnhndligblaaa
