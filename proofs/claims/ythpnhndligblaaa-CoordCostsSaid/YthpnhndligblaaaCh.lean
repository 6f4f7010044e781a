/- The coordinator: Quit, Ack. Conditions: numbers within int. -/
import Derived.Test.YthpnhndligblaaaCg
namespace Go.Proofs.Ythpnhndligblaaa
open Go.RowKit Go.Maps Go.BigFrame
theorem quit_nil (tx : Int) (w : World) : Calls Try.prog 16 #[.pointer none, .int .i64 tx] w fun e w' => ∃ v, e = .returned (.tuple #[v, .int .i64 2]) ∧ DealIs w' w.heap.size v noDeal ∧ Chg NoB w w' := by
  go_enter Try.func16, Try.ntmps16
  go_upto_region 1 with (fail)
  have hD := deal_new w
  have hc := deal_chg w
  generalize w.alloc (.cells #[.slice none 0 0, .int .i64 0, .int .i64 0, .int .i64 0, .int .i64 0, .string ⟨#[]⟩, .bool false, .string ⟨#[]⟩, .bool false, .string ⟨#[]⟩, .int .i64 0, .slice none 0 0, .slice none 0 0, .slice none 0 0, .slice none 0 0, .slice none 0 0, .slice none 0 0, .int .i64 0] 41) = w1 at *
  have hlD := hD.lt
  have ho := of_nil tx w1
  go_wp2_with (first | (go_at_call 20; refine ho.mono ?_; clear ho; rintro e w1' ⟨rfl, hw1⟩; subst w1') | (refine wpList_deal hD rfl _ _ rfl rfl (.slice none 0 0) (0) (0) (.slice none 0 0) (0) rfl IsSl.nil IsSl.nil ?_; intro w2 hD2 hc2 hs2) | fail)
  exact bodyPost_ret (ret_deal2 rfl rfl hD2 rfl) rfl ⟨_, rfl, DealIs.zero _ _, hc.fresh hc2 (Nat.le_refl _)⟩
theorem quit_none (bc bm : Nat) (me tx : Int) (l : List Ep) (w : World) (h : CAt w bc bm me l) (ht : I64 tx) (hno : tx ∉ l.map (·.e.tx)) :
    Calls Try.prog 16 #[.pointer (some ⟨bc, 0, none⟩), .int .i64 tx] w fun e w' => ∃ v, e = .returned (.tuple #[v, .int .i64 160]) ∧ DealIs w' w.heap.size v noDeal ∧ Chg NoB w w' := by
  go_enter Try.func16, Try.ntmps16
  go_upto_region 1 with (fail)
  have hD := deal_new w
  have hc := deal_chg w
  generalize w.alloc (.cells #[.slice none 0 0, .int .i64 0, .int .i64 0, .int .i64 0, .int .i64 0, .string ⟨#[]⟩, .bool false, .string ⟨#[]⟩, .bool false, .string ⟨#[]⟩, .int .i64 0, .slice none 0 0, .slice none 0 0, .slice none 0 0, .slice none 0 0, .slice none 0 0, .slice none 0 0, .int .i64 0] 41) = w1 at *
  have hlD := hD.lt
  have h1 := h.no hc
  have ho := of_none bc bm me tx l w1 h1 ht hno
  go_wp2_with (first | (go_at_call 20; refine ho.mono ?_; clear ho; rintro e w1' ⟨rfl, hw1⟩; subst w1') | (refine wpList_deal hD rfl _ _ rfl rfl (.slice none 0 0) (0) (0) (.slice none 0 0) (0) rfl IsSl.nil IsSl.nil ?_; intro w2 hD2 hc2 hs2) | fail)
  exact bodyPost_ret (ret_deal2 rfl rfl hD2 rfl) rfl ⟨_, rfl, DealIs.zero _ _, hc.fresh hc2 (Nat.le_refl _)⟩
theorem quit_state (bc bm : Nat) (me : Int) (l1 l2 : List Ep) (p : Ep) (w : World) (h : CAt w bc bm me (l1 ++ p :: l2)) (ht : I64 p.e.tx) (hp : p.e.phase = 5) :
    Calls Try.prog 16 #[.pointer (some ⟨bc, 0, none⟩), .int .i64 p.e.tx] w fun e w' => ∃ v, e = .returned (.tuple #[v, .int .i64 161]) ∧ DealIs w' w.heap.size v noDeal ∧ Chg NoB w w' := by
  go_enter Try.func16, Try.ntmps16
  go_upto_region 1 with (fail)
  have hD := deal_new w
  have hc := deal_chg w
  generalize w.alloc (.cells #[.slice none 0 0, .int .i64 0, .int .i64 0, .int .i64 0, .int .i64 0, .string ⟨#[]⟩, .bool false, .string ⟨#[]⟩, .bool false, .string ⟨#[]⟩, .int .i64 0, .slice none 0 0, .slice none 0 0, .slice none 0 0, .slice none 0 0, .slice none 0 0, .slice none 0 0, .int .i64 0] 41) = w1 at *
  have hlD := hD.lt
  have h1 := h.no hc
  have ho := of_some bc bm me l1 l2 p w1 h1 ht
  have hE := (h1.own p (by simp)).hd
  have e1 := hE.cell 1 rfl
  rw [hp] at e1
  have hlt := hE.lt
  go_wp2_with (first | (go_at_call 20; refine ho.mono ?_; clear ho; rintro e w1' ⟨rfl, hw1⟩; subst w1') | (refine wpList_deal hD rfl _ _ rfl rfl (.slice none 0 0) (0) (0) (.slice none 0 0) (0) rfl IsSl.nil IsSl.nil ?_; intro w2 hD2 hc2 hs2) | fail)
  exact bodyPost_ret (ret_deal2 rfl rfl hD2 rfl) rfl ⟨_, rfl, DealIs.zero _ _, hc.fresh hc2 (Nat.le_refl _)⟩
/-- A deal of a callee's, laid into the result's block. -/
theorem DealIs.into {w w1 w2 w3 : World} {b : Nat} {v : Value} {d : Dl} (hb : b < w1.heap.size) (h : DealIs w2 w1.heap.size v d) (c : Chg (· = b) w2 w3) (hw : w.heap.size ≤ w1.heap.size) : DealIs w3 w.heap.size v d :=
  (h.chg c (fun k hk e => by omega)).mono hw
set_option maxHeartbeats 800000 in
theorem quit_ok (bc bm : Nat) (me : Int) (l1 l2 : List Ep) (p : Ep) (w : World) (h : CAt w bc bm me (l1 ++ p :: l2)) (ht : I64 p.e.tx) (hp : p.e.phase ≠ 5) (hao : p.e.phase = 4 → p.ao ≠ none) (hml : p.e.mem.length ≤ 1000) (hal : p.e.aw.length ≤ 1000) (hyl : p.e.yes.length ≤ 1000) :
    Calls Try.prog 16 #[.pointer (some ⟨bc, 0, none⟩), .int .i64 p.e.tx] w fun e w' => ∃ v, e = .returned (.tuple #[v, .int .i64 0]) ∧ DealIs w' w.heap.size v ⟨toM 6 me p.e.tx p.e.mem (quitN p.e), 0, 0, [], 2⟩ ∧ CAt w' bc bm me (l1 ++ l2) ∧ Chg (· = bm) w w' := by
  go_enter Try.func16, Try.ntmps16
  go_upto_region 1 with (fail)
  have hD := deal_new w
  have hc := deal_chg w
  generalize w.alloc (.cells #[.slice none 0 0, .int .i64 0, .int .i64 0, .int .i64 0, .int .i64 0, .string ⟨#[]⟩, .bool false, .string ⟨#[]⟩, .bool false, .string ⟨#[]⟩, .int .i64 0, .slice none 0 0, .slice none 0 0, .slice none 0 0, .slice none 0 0, .slice none 0 0, .slice none 0 0, .int .i64 0] 41) = w1 at *
  have hlD := hD.lt
  have h1 := h.no hc
  have ho := of_some bc bm me l1 l2 p w1 h1 ht
  have hE := (h1.own p (by simp)).hd
  have e1 := hE.cell 1 rfl
  have hz : (p.e.phase == 5) = false := by simpa using hp
  have hlt := hE.lt
  have hg := giveUp_any bc bm me l1 l2 p w1 h1 ht hao hml hal hyl
  go_wp2_with (first | (go_at_call 20; refine ho.mono ?_; clear ho; rintro e w1' ⟨rfl, hw1⟩; subst w1') | (go_at_call 26; refine hg.mono ?_; clear hg; rintro e w2 ⟨v2, rfl, hd2, h2, hc2⟩; obtain ⟨sv, mv, rfl, hM, hI⟩ := id hd2; obtain ⟨a5, n5, k5, rfl⟩ := hM.isSl; obtain ⟨a6, n6, k6, rfl⟩ := hI.isSl; have hD2 := hD.chg hc2 (fun e => h1.mp.ne_at hD e.symm)) | (refine wpList_deal hD2 rfl _ _ rfl rfl (.slice a5 n5 k5) (0) (0) (.slice a6 n6 k6) (2) rfl ⟨_, _, _, rfl⟩ ⟨_, _, _, rfl⟩ ?_; intro w3 hD3 hc3 hs3) | fail)
  have hs2 := hc2.size
  have hs1 := hc.size
  have hbc := h.mp.lt
  refine bodyPost_ret (ret_deal2 rfl rfl hD3 rfl) rfl ⟨_, rfl, hd2.into hlD hc3 hs1, h2.apart_at hD2 (by decide) (by decide) (by decide) hc3, ((hc.mono (T := (· = bm)) (by simp [NoB])).trans hc2 (fun _ _ h => h)).trans hc3 (fun j h1 h2 => by omega)⟩
theorem sees_at {w : World} {b : Nat} {l : List Int} (h : At w b (l.map (Value.int .i64)) 3) : Sees w cellsI (.slice (some ⟨b, 0, none⟩) l.length l.length) l :=
  ⟨_, _, rfl, (fun h => by cases h), fun ad had j u hu => by
    cases had
    rw [flatI] at hu
    rw [addr_add, Nat.zero_add]
    exact h.cell j hu⟩
def dropI (l : List Int) (x : Int) : List Int := l.filter (fun n => n ≠ x)
theorem setP_drop (l : List Int) (x : Int) : mdel (setP l) x = setP (dropI l x) := by
  unfold mdel setP dropI
  rw [List.filter_map]
  rfl
set_option maxHeartbeats 800000 in
theorem ack_nil (w : World) (m : Mg) (mv : Value) (hv : Sees w cellsI mv m.ms) (hl : m.ms.length ≤ 1099511627776) : Calls Try.prog 14 #[.pointer none, msgV m mv] w fun e w' => ∃ v, e = .returned v ∧ DealIs w' w.heap.size v noDeal ∧ Chg NoB w w' := by
  obtain ⟨ao, c, rfl⟩ := hv.shape
  obtain ⟨kind, frm, dst, tx, ms⟩ := m
  unfold msgV
  simp only at *
  go_enter Try.func14, Try.ntmps14
  go_upto_region 1 with (fail)
  have hX0 : At (w.alloc (.cells #[.int .i64 kind, .int .i64 frm, .int .i64 dst, .int .i64 tx, .slice ao ms.length c] 46)) w.heap.size [.int .i64 kind, .int .i64 frm, .int .i64 dst, .int .i64 tx, .slice ao ms.length c] 46 := At.new w _ _
  have hcX := (Chg.refl NoB w).alloc (.cells #[.int .i64 kind, .int .i64 frm, .int .i64 dst, .int .i64 tx, .slice ao ms.length c] 46)
  have hsX : (w.alloc (.cells #[.int .i64 kind, .int .i64 frm, .int .i64 dst, .int .i64 tx, .slice ao ms.length c] 46)).heap.size = w.heap.size + 1 := by simp
  generalize w.alloc (.cells #[.int .i64 kind, .int .i64 frm, .int .i64 dst, .int .i64 tx, .slice ao ms.length c] 46) = wx at *
  have hD := deal_new wx
  have hX := hX0.chg (deal_chg wx) (by simp [NoB])
  have hc := hcX.trans (deal_chg wx) (by simp [NoB])
  have hszx : wx.heap.size = w.heap.size + 1 := hsX
  generalize wx.alloc (.cells #[.slice none 0 0, .int .i64 0, .int .i64 0, .int .i64 0, .int .i64 0, .string ⟨#[]⟩, .bool false, .string ⟨#[]⟩, .bool false, .string ⟨#[]⟩, .int .i64 0, .slice none 0 0, .slice none 0 0, .slice none 0 0, .slice none 0 0, .slice none 0 0, .slice none 0 0, .int .i64 0] 41) = w1 at *
  rw [hszx] at hD
  clear hX0 hcX hsX hszx
  have hlD := hD.lt
  have hlX := hX.lt
  have x0 := hX.cell 0 rfl
  have x1 := hX.cell 1 rfl
  have x2 := hX.cell 2 rfl
  have x3 := hX.cell 3 rfl
  have x4 := hX.cell 4 rfl
  have hck := (Chg.refl NoB w1).alloc (.cells #[.int .i64 7] 3)
  have hkv : Sees (w1.alloc (.cells #[.int .i64 7] 3)) cellsI (.slice (some ⟨w1.heap.size, 0, none⟩) 1 1) [7] := sees_at (l := [7]) (At.new w1 _ 3)
  have hcw2 := hc.trans hck (by simp [NoB])
  have hhe := heard_nil ⟨kind, frm, dst, tx, ms⟩ (.slice ao ms.length c) (.slice (some ⟨w1.heap.size, 0, none⟩) 1 1) (w1.alloc (.cells #[.int .i64 7] 3))
  unfold msgV at hhe
  simp only at hhe
  go_wp2_with (first | (go_at_call 25; refine hhe.mono ?_; clear hhe; rintro e w2 ⟨rfl, hc2⟩; have hD1 := (hD.chg hck (by simp [NoB])).chg hc2 (by simp [NoB])) | (refine wpList_deal hD1 rfl _ _ rfl rfl (.slice none 0 0) (0) (0) (.slice none 0 0) (0) rfl IsSl.nil IsSl.nil ?_; intro w3 hD3 hc3 hs3) | fail)
  exact bodyPost_ret (ret_deal rfl rfl hD3) rfl ⟨_, rfl, DealIs.zero _ _, (hcw2.trans hc2 (by simp [NoB])).fresh hc3 (by omega)⟩
set_option maxHeartbeats 800000 in
theorem ack_deaf (bc : Nat) (mp : Value) (me : Int) (w : World) (hd : At w bc [.int .i64 me, mp] 56) (m : Mg) (mv : Value) (hv : Sees w cellsI mv m.ms) (hl : m.ms.length ≤ 1099511627776) (hB : heardB me m [7] = false) : Calls Try.prog 14 #[.pointer (some ⟨bc, 0, none⟩), msgV m mv] w fun e w' => ∃ v, e = .returned v ∧ DealIs w' w.heap.size v noDeal ∧ Chg NoB w w' := by
  obtain ⟨ao, c, rfl⟩ := hv.shape
  obtain ⟨kind, frm, dst, tx, ms⟩ := m
  unfold msgV
  simp only at *
  go_enter Try.func14, Try.ntmps14
  go_upto_region 1 with (fail)
  have hX0 : At (w.alloc (.cells #[.int .i64 kind, .int .i64 frm, .int .i64 dst, .int .i64 tx, .slice ao ms.length c] 46)) w.heap.size [.int .i64 kind, .int .i64 frm, .int .i64 dst, .int .i64 tx, .slice ao ms.length c] 46 := At.new w _ _
  have hcX := (Chg.refl NoB w).alloc (.cells #[.int .i64 kind, .int .i64 frm, .int .i64 dst, .int .i64 tx, .slice ao ms.length c] 46)
  have hsX : (w.alloc (.cells #[.int .i64 kind, .int .i64 frm, .int .i64 dst, .int .i64 tx, .slice ao ms.length c] 46)).heap.size = w.heap.size + 1 := by simp
  generalize w.alloc (.cells #[.int .i64 kind, .int .i64 frm, .int .i64 dst, .int .i64 tx, .slice ao ms.length c] 46) = wx at *
  have hD := deal_new wx
  have hX := hX0.chg (deal_chg wx) (by simp [NoB])
  have hc := hcX.trans (deal_chg wx) (by simp [NoB])
  have hszx : wx.heap.size = w.heap.size + 1 := hsX
  generalize wx.alloc (.cells #[.slice none 0 0, .int .i64 0, .int .i64 0, .int .i64 0, .int .i64 0, .string ⟨#[]⟩, .bool false, .string ⟨#[]⟩, .bool false, .string ⟨#[]⟩, .int .i64 0, .slice none 0 0, .slice none 0 0, .slice none 0 0, .slice none 0 0, .slice none 0 0, .slice none 0 0, .int .i64 0] 41) = w1 at *
  rw [hszx] at hD
  clear hX0 hcX hsX hszx
  have hlD := hD.lt
  have hlX := hX.lt
  have x0 := hX.cell 0 rfl
  have x1 := hX.cell 1 rfl
  have x2 := hX.cell 2 rfl
  have x3 := hX.cell 3 rfl
  have x4 := hX.cell 4 rfl
  have hck := (Chg.refl NoB w1).alloc (.cells #[.int .i64 7] 3)
  have hkv : Sees (w1.alloc (.cells #[.int .i64 7] 3)) cellsI (.slice (some ⟨w1.heap.size, 0, none⟩) 1 1) [7] := sees_at (l := [7]) (At.new w1 _ 3)
  have hcw2 := hc.trans hck (by simp [NoB])
  have hhe := heard_no bc mp me _ ⟨kind, frm, dst, tx, ms⟩ (.slice ao ms.length c) (.slice (some ⟨w1.heap.size, 0, none⟩) 1 1) [7] (hd.chg hcw2 (by simp [NoB])) (hv.no hcw2) hl hkv (by simp) hB
  unfold msgV at hhe
  simp only at hhe
  go_wp2_with (first | (go_at_call 25; refine hhe.mono ?_; clear hhe; rintro e w2 ⟨rfl, hc2⟩; have hD1 := (hD.chg hck (by simp [NoB])).chg hc2 (by simp [NoB])) | (refine wpList_deal hD1 rfl _ _ rfl rfl (.slice none 0 0) (0) (0) (.slice none 0 0) (0) rfl IsSl.nil IsSl.nil ?_; intro w3 hD3 hc3 hs3) | fail)
  exact bodyPost_ret (ret_deal rfl rfl hD3) rfl ⟨_, rfl, DealIs.zero _ _, (hcw2.trans hc2 (by simp [NoB])).fresh hc3 (by omega)⟩
set_option maxHeartbeats 800000 in
theorem ack_none (bc bm : Nat) (me : Int) (l : List Ep) (w : World) (h : CAt w bc bm me l) (m : Mg) (mv : Value) (hv : Sees w cellsI mv m.ms) (hl : m.ms.length ≤ 1099511627776) (hB : heardB me m [7] = true) (hno : m.tx ∉ l.map (·.e.tx)) : Calls Try.prog 14 #[.pointer (some ⟨bc, 0, none⟩), msgV m mv] w fun e w' => ∃ v, e = .returned v ∧ DealIs w' w.heap.size v noDeal ∧ Chg NoB w w' := by
  obtain ⟨ao, c, rfl⟩ := hv.shape
  obtain ⟨kind, frm, dst, tx, ms⟩ := m
  unfold msgV
  simp only at *
  go_enter Try.func14, Try.ntmps14
  go_upto_region 1 with (fail)
  have hX0 : At (w.alloc (.cells #[.int .i64 kind, .int .i64 frm, .int .i64 dst, .int .i64 tx, .slice ao ms.length c] 46)) w.heap.size [.int .i64 kind, .int .i64 frm, .int .i64 dst, .int .i64 tx, .slice ao ms.length c] 46 := At.new w _ _
  have hcX := (Chg.refl NoB w).alloc (.cells #[.int .i64 kind, .int .i64 frm, .int .i64 dst, .int .i64 tx, .slice ao ms.length c] 46)
  have hsX : (w.alloc (.cells #[.int .i64 kind, .int .i64 frm, .int .i64 dst, .int .i64 tx, .slice ao ms.length c] 46)).heap.size = w.heap.size + 1 := by simp
  generalize w.alloc (.cells #[.int .i64 kind, .int .i64 frm, .int .i64 dst, .int .i64 tx, .slice ao ms.length c] 46) = wx at *
  have hD := deal_new wx
  have hX := hX0.chg (deal_chg wx) (by simp [NoB])
  have hc := hcX.trans (deal_chg wx) (by simp [NoB])
  have hszx : wx.heap.size = w.heap.size + 1 := hsX
  generalize wx.alloc (.cells #[.slice none 0 0, .int .i64 0, .int .i64 0, .int .i64 0, .int .i64 0, .string ⟨#[]⟩, .bool false, .string ⟨#[]⟩, .bool false, .string ⟨#[]⟩, .int .i64 0, .slice none 0 0, .slice none 0 0, .slice none 0 0, .slice none 0 0, .slice none 0 0, .slice none 0 0, .int .i64 0] 41) = w1 at *
  rw [hszx] at hD
  clear hX0 hcX hsX hszx
  have hlD := hD.lt
  have hlX := hX.lt
  have x0 := hX.cell 0 rfl
  have x1 := hX.cell 1 rfl
  have x2 := hX.cell 2 rfl
  have x3 := hX.cell 3 rfl
  have x4 := hX.cell 4 rfl
  have hck := (Chg.refl NoB w1).alloc (.cells #[.int .i64 7] 3)
  have hkv : Sees (w1.alloc (.cells #[.int .i64 7] 3)) cellsI (.slice (some ⟨w1.heap.size, 0, none⟩) 1 1) [7] := sees_at (l := [7]) (At.new w1 _ 3)
  have hcw2 := hc.trans hck (by simp [NoB])
  have hhe := heard_yes bc bm me l _ (h.no hcw2) ⟨kind, frm, dst, tx, ms⟩ (.slice ao ms.length c) (.slice (some ⟨w1.heap.size, 0, none⟩) 1 1) [7] (hv.no hcw2) hl hkv (by simp) hB
  simp only at hhe
  rw [prs_none hno] at hhe
  unfold msgV ptr at hhe
  simp only at hhe
  go_wp2_with (first | (go_at_call 25; refine hhe.mono ?_; clear hhe; rintro e w2 ⟨rfl, hc2⟩; have hD1 := (hD.chg hck (by simp [NoB])).chg hc2 (by simp [NoB])) | (refine wpList_deal hD1 rfl _ _ rfl rfl (.slice none 0 0) (0) (0) (.slice none 0 0) (0) rfl IsSl.nil IsSl.nil ?_; intro w3 hD3 hc3 hs3) | fail)
  exact bodyPost_ret (ret_deal rfl rfl hD3) rfl ⟨_, rfl, DealIs.zero _ _, (hcw2.trans hc2 (by simp [NoB])).fresh hc3 (by omega)⟩
set_option maxRecDepth 100000 in
set_option maxHeartbeats 800000 in
theorem ack_unsure (bc bm : Nat) (me : Int) (l1 l2 : List Ep) (p : Ep) (w : World) (h : CAt w bc bm me (l1 ++ p :: l2)) (m : Mg) (mv : Value) (hv : Sees w cellsI mv m.ms) (hl : m.ms.length ≤ 1099511627776) (hB : heardB me m [7] = true) (htx : m.tx = p.e.tx) (hsu : p.e.sure = false) : Calls Try.prog 14 #[.pointer (some ⟨bc, 0, none⟩), msgV m mv] w fun e w' => ∃ v, e = .returned v ∧ DealIs w' w.heap.size v noDeal ∧ Chg NoB w w' := by
  obtain ⟨ao, c, rfl⟩ := hv.shape
  obtain ⟨kind, frm, dst, tx, ms⟩ := m
  unfold msgV
  simp only at *
  subst htx
  go_enter Try.func14, Try.ntmps14
  go_upto_region 1 with (fail)
  have hX0 : At (w.alloc (.cells #[.int .i64 kind, .int .i64 frm, .int .i64 dst, .int .i64 p.e.tx, .slice ao ms.length c] 46)) w.heap.size [.int .i64 kind, .int .i64 frm, .int .i64 dst, .int .i64 p.e.tx, .slice ao ms.length c] 46 := At.new w _ _
  have hcX := (Chg.refl NoB w).alloc (.cells #[.int .i64 kind, .int .i64 frm, .int .i64 dst, .int .i64 p.e.tx, .slice ao ms.length c] 46)
  have hsX : (w.alloc (.cells #[.int .i64 kind, .int .i64 frm, .int .i64 dst, .int .i64 p.e.tx, .slice ao ms.length c] 46)).heap.size = w.heap.size + 1 := by simp
  generalize w.alloc (.cells #[.int .i64 kind, .int .i64 frm, .int .i64 dst, .int .i64 p.e.tx, .slice ao ms.length c] 46) = wx at *
  have hD := deal_new wx
  have hX := hX0.chg (deal_chg wx) (by simp [NoB])
  have hc := hcX.trans (deal_chg wx) (by simp [NoB])
  have hszx : wx.heap.size = w.heap.size + 1 := hsX
  generalize wx.alloc (.cells #[.slice none 0 0, .int .i64 0, .int .i64 0, .int .i64 0, .int .i64 0, .string ⟨#[]⟩, .bool false, .string ⟨#[]⟩, .bool false, .string ⟨#[]⟩, .int .i64 0, .slice none 0 0, .slice none 0 0, .slice none 0 0, .slice none 0 0, .slice none 0 0, .slice none 0 0, .int .i64 0] 41) = w1 at *
  rw [hszx] at hD
  clear hX0 hcX hsX hszx
  have hlD := hD.lt
  have hlX := hX.lt
  have x0 := hX.cell 0 rfl
  have x1 := hX.cell 1 rfl
  have x2 := hX.cell 2 rfl
  have x3 := hX.cell 3 rfl
  have x4 := hX.cell 4 rfl
  have hck := (Chg.refl NoB w1).alloc (.cells #[.int .i64 7] 3)
  have hkv : Sees (w1.alloc (.cells #[.int .i64 7] 3)) cellsI (.slice (some ⟨w1.heap.size, 0, none⟩) 1 1) [7] := sees_at (l := [7]) (At.new w1 _ 3)
  have hcw2 := hc.trans hck (by simp [NoB])
  have hhe := heard_yes bc bm me _ _ (h.no hcw2) ⟨kind, frm, dst, p.e.tx, ms⟩ (.slice ao ms.length c) (.slice (some ⟨w1.heap.size, 0, none⟩) 1 1) [7] (hv.no hcw2) hl hkv (by simp) hB
  simp only at hhe
  rw [(h.no hcw2).prs_some] at hhe
  unfold msgV ptr encP at hhe
  simp only at hhe
  go_wp2_with (first | (go_at_call 25; refine hhe.mono ?_; clear hhe; rintro e w2 ⟨rfl, hc2⟩; have hD1 := (hD.chg hck (by simp [NoB])).chg hc2 (by simp [NoB]); have hX1 := (hX.chg hck (by simp [NoB])).chg hc2 (by simp [NoB]); have h1 := (h.no hcw2).no hc2; have hcw3 := hcw2.trans hc2 (by simp [NoB]); have hEH := h1.own p (by simp); have hE := hEH.hd; have e5 := hE.cell 5 rfl; have hlt := hE.lt; rw [hsu] at e5) | (refine wpList_deal hD1 rfl _ _ rfl rfl (.slice none 0 0) (0) (0) (.slice none 0 0) (0) rfl IsSl.nil IsSl.nil ?_; intro w3 hD3 hc3 hs3) | fail)
  exact bodyPost_ret (ret_deal rfl rfl hD3) rfl ⟨_, rfl, DealIs.zero _ _, (hcw2.trans hc2 (by simp [NoB])).fresh hc3 (by omega)⟩
def awE (p : Ep) (aw : List Int) : Ep := ⟨{ p.e with aw := aw }, p.b, p.mv, p.ao, p.yv⟩
/-- One fewer is awaited. -/
theorem CAt.awdel {w w' : World} {bc bm : Nat} {me : Int} {l1 l2 : List Ep} {p : Ep} {ba : Nat} {aw : List Int} (h : CAt w bc bm me (l1 ++ p :: l2)) (hao : p.ao = some ba) (hs : SMap w' ba (setP aw)) (hc : Chg (· = ba) w w') : CAt w' bc bm me (l1 ++ awE p aw :: l2) ∧ Chg (· ∈ blocks p) w w' := by
  have hEH := h.own p (by simp)
  have hA := hEH.a
  rw [hao] at hA
  have hcb := hc.mono (T := (· ∈ blocks p)) (fun k _ hk => mem_blocks.2 (.inr (.inr (.inr (by rw [hk]; exact hao)))))
  have hE : EHas w' (awE p aw) := ⟨hEH.hd.chg hc (fun e => MapIs.ne_at hA hEH.hd e.symm), hEH.m.chg hc (fun g hg e => by subst e; exact hEH.m.apart_map hA hg), hEH.y.chg hc (fun g hg e => by subst e; exact hEH.y.apart_map hA hg), by show AwIs w' p.ao aw; rw [hao]; exact hs⟩
  exact ⟨h.step hcb hE rfl rfl (fun k hk => .inl hk) (hE.nd (fun g hg => my_of_nd h.nd g hg)), hcb⟩
set_option maxRecDepth 100000 in
set_option maxHeartbeats 800000 in
theorem ack_more (bc bm : Nat) (me : Int) (l1 l2 : List Ep) (p : Ep) (w : World) (h : CAt w bc bm me (l1 ++ p :: l2)) (m : Mg) (mv : Value) (hv : Sees w cellsI mv m.ms) (hl : m.ms.length ≤ 1099511627776) (ba : Nat) (hao : p.ao = some ba) (hB : heardB me m [7] = true) (htx : m.tx = p.e.tx) (hsu : p.e.sure = true) (hfr : I64 m.frm) (hmo : dropI p.e.aw m.frm ≠ []) : Calls Try.prog 14 #[.pointer (some ⟨bc, 0, none⟩), msgV m mv] w fun e w' => ∃ v, e = .returned v ∧ DealIs w' w.heap.size v noDeal ∧ CAt w' bc bm me (l1 ++ awE p (dropI p.e.aw m.frm) :: l2) ∧ Chg (· ∈ blocks p) w w' := by
  obtain ⟨ao, c, rfl⟩ := hv.shape
  obtain ⟨kind, frm, dst, tx, ms⟩ := m
  unfold msgV
  simp only at *
  subst htx
  go_enter Try.func14, Try.ntmps14
  go_upto_region 1 with (fail)
  have hX0 : At (w.alloc (.cells #[.int .i64 kind, .int .i64 frm, .int .i64 dst, .int .i64 p.e.tx, .slice ao ms.length c] 46)) w.heap.size [.int .i64 kind, .int .i64 frm, .int .i64 dst, .int .i64 p.e.tx, .slice ao ms.length c] 46 := At.new w _ _
  have hcX := (Chg.refl NoB w).alloc (.cells #[.int .i64 kind, .int .i64 frm, .int .i64 dst, .int .i64 p.e.tx, .slice ao ms.length c] 46)
  have hsX : (w.alloc (.cells #[.int .i64 kind, .int .i64 frm, .int .i64 dst, .int .i64 p.e.tx, .slice ao ms.length c] 46)).heap.size = w.heap.size + 1 := by simp
  generalize w.alloc (.cells #[.int .i64 kind, .int .i64 frm, .int .i64 dst, .int .i64 p.e.tx, .slice ao ms.length c] 46) = wx at *
  have hD := deal_new wx
  have hX := hX0.chg (deal_chg wx) (by simp [NoB])
  have hc := hcX.trans (deal_chg wx) (by simp [NoB])
  have hszx : wx.heap.size = w.heap.size + 1 := hsX
  generalize wx.alloc (.cells #[.slice none 0 0, .int .i64 0, .int .i64 0, .int .i64 0, .int .i64 0, .string ⟨#[]⟩, .bool false, .string ⟨#[]⟩, .bool false, .string ⟨#[]⟩, .int .i64 0, .slice none 0 0, .slice none 0 0, .slice none 0 0, .slice none 0 0, .slice none 0 0, .slice none 0 0, .int .i64 0] 41) = w1 at *
  rw [hszx] at hD
  clear hX0 hcX hsX hszx
  have hlD := hD.lt
  have hlX := hX.lt
  have x0 := hX.cell 0 rfl
  have x1 := hX.cell 1 rfl
  have x2 := hX.cell 2 rfl
  have x3 := hX.cell 3 rfl
  have x4 := hX.cell 4 rfl
  have hck := (Chg.refl NoB w1).alloc (.cells #[.int .i64 7] 3)
  have hkv : Sees (w1.alloc (.cells #[.int .i64 7] 3)) cellsI (.slice (some ⟨w1.heap.size, 0, none⟩) 1 1) [7] := sees_at (l := [7]) (At.new w1 _ 3)
  have hcw2 := hc.trans hck (by simp [NoB])
  have hhe := heard_yes bc bm me _ _ (h.no hcw2) ⟨kind, frm, dst, p.e.tx, ms⟩ (.slice ao ms.length c) (.slice (some ⟨w1.heap.size, 0, none⟩) 1 1) [7] (hv.no hcw2) hl hkv (by simp) hB
  simp only at hhe
  rw [(h.no hcw2).prs_some] at hhe
  unfold msgV ptr encP at hhe
  simp only at hhe
  go_upto_region 4 with (first | (go_at_call 25; refine hhe.mono ?_; clear hhe; rintro e w2 ⟨rfl, hc2⟩; have hD1 := (hD.chg hck (by simp [NoB])).chg hc2 (by simp [NoB]); have hX1 := (hX.chg hck (by simp [NoB])).chg hc2 (by simp [NoB]); have h1 := (h.no hcw2).no hc2; have hcw3 := hcw2.trans hc2 (by simp [NoB]); have hEH := h1.own p (by simp); have hE := hEH.hd; have e5 := hE.cell 5 rfl; have hlt := hE.lt; rw [hsu] at e5) | fail)
  have hA := hEH.a
  rw [hao] at hA
  have e3 := hE.cell 3 rfl
  rw [hao] at e3
  have e3' : w2.drew.cell? ⟨p.b, 3, none⟩ = some (.map (some ba)) := e3
  have x1' : w2.drew.cell? ⟨w.heap.size, 1, none⟩ = some (.int .i64 frm) := hX1.cell 1 rfl
  have hltX := hX1.lt
  go_still_tail 6, (by kernel_rfl)
  change wpList _ _ _ _ _ w2.drew
  have hkey := key_lit (n := frm) hfr
  refine wpList_drop (hA.drew) law3 encN_inj Try.underlying59 rfl _ _ rfl rfl frm rfl hkey ?_
  intro w4 hm4 hg4
  have hcd4 : Chg (· = ba) w2 w4 := (((Chg.refl NoB w2).drew).mono (T := (· = ba)) (by simp [NoB])).grown hg4 (by simp)
  change SMap w4 ba (mdel (setP p.e.aw) frm) at hm4
  rw [setP_drop] at hm4
  obtain ⟨h4, hcb4⟩ := h1.awdel hao hm4 hcd4
  have hD4 := hD1.chg hcd4 (fun e => MapIs.ne_at hA hD1 e.symm)
  have hE4 := (h4.own (awE p (dropI p.e.aw frm)) (by simp)).hd
  have e3 : w4.cell? ⟨p.b, 3, none⟩ = some (.map (some ba)) := by rw [← hao]; exact hE4.cell 3 rfl
  have hlt4 : p.b < w4.heap.size := hE4.lt
  have hlen := hm4.len (ty := 3) Try.underlying59
  have hln : (setP (dropI p.e.aw frm)).length = (dropI p.e.aw frm).length := by simp [setP]
  rw [hln] at hlen
  clear hln
  have hgt : decide ((0 : Int) < ((dropI p.e.aw frm).length : Int)) = true := by
    have : (dropI p.e.aw frm).length ≠ 0 := fun e => hmo (List.eq_nil_of_length_eq_zero e)
    simp
    omega
  have hgt2 : decide (0 < (dropI p.e.aw frm).length) = true := by simpa using hgt
  go_wp2_with (first | (refine wpList_deal hD4 rfl _ _ rfl rfl (.slice none 0 0) (0) (0) (.slice none 0 0) (0) rfl IsSl.nil IsSl.nil ?_; intro w5 hD5 hc5 hs5) | fail)
  exact bodyPost_ret (ret_deal rfl rfl hD5) rfl ⟨_, rfl, DealIs.zero _ _, h4.apart_at hD4 (by decide) (by decide) (by decide) hc5, ((hcw3.mono (T := (· ∈ blocks p)) (by simp [NoB])).trans hcb4 (fun _ _ h => h)).trans hc5 (fun j h1 h2 => by omega)⟩
set_option maxRecDepth 100000 in
set_option maxHeartbeats 800000 in
theorem ack_last (bc bm : Nat) (me : Int) (l1 l2 : List Ep) (p : Ep) (w : World) (h : CAt w bc bm me (l1 ++ p :: l2)) (m : Mg) (mv : Value) (hv : Sees w cellsI mv m.ms) (hl : m.ms.length ≤ 1099511627776) (ba : Nat) (hao : p.ao = some ba) (hB : heardB me m [7] = true) (htx : m.tx = p.e.tx) (hsu : p.e.sure = true) (hfr : I64 m.frm) (hmo : dropI p.e.aw m.frm = []) : Calls Try.prog 14 #[.pointer (some ⟨bc, 0, none⟩), msgV m mv] w fun e w' => ∃ v, e = .returned v ∧ DealIs w' w.heap.size v ⟨[], 10, p.e.tx, [], 0⟩ ∧ CAt w' bc bm me (l1 ++ l2) ∧ Chg (fun k => k = bm ∨ k ∈ blocks p) w w' := by
  have hti := mayM_tx (m := m) (by unfold heardB at hB; simp only [Bool.and_eq_true] at hB; exact hB.1.1)
  obtain ⟨ao, c, rfl⟩ := hv.shape
  obtain ⟨kind, frm, dst, tx, ms⟩ := m
  unfold msgV
  simp only at *
  subst htx
  go_enter Try.func14, Try.ntmps14
  go_upto_region 1 with (fail)
  have hX0 : At (w.alloc (.cells #[.int .i64 kind, .int .i64 frm, .int .i64 dst, .int .i64 p.e.tx, .slice ao ms.length c] 46)) w.heap.size [.int .i64 kind, .int .i64 frm, .int .i64 dst, .int .i64 p.e.tx, .slice ao ms.length c] 46 := At.new w _ _
  have hcX := (Chg.refl NoB w).alloc (.cells #[.int .i64 kind, .int .i64 frm, .int .i64 dst, .int .i64 p.e.tx, .slice ao ms.length c] 46)
  have hsX : (w.alloc (.cells #[.int .i64 kind, .int .i64 frm, .int .i64 dst, .int .i64 p.e.tx, .slice ao ms.length c] 46)).heap.size = w.heap.size + 1 := by simp
  generalize w.alloc (.cells #[.int .i64 kind, .int .i64 frm, .int .i64 dst, .int .i64 p.e.tx, .slice ao ms.length c] 46) = wx at *
  have hD := deal_new wx
  have hX := hX0.chg (deal_chg wx) (by simp [NoB])
  have hc := hcX.trans (deal_chg wx) (by simp [NoB])
  have hszx : wx.heap.size = w.heap.size + 1 := hsX
  generalize wx.alloc (.cells #[.slice none 0 0, .int .i64 0, .int .i64 0, .int .i64 0, .int .i64 0, .string ⟨#[]⟩, .bool false, .string ⟨#[]⟩, .bool false, .string ⟨#[]⟩, .int .i64 0, .slice none 0 0, .slice none 0 0, .slice none 0 0, .slice none 0 0, .slice none 0 0, .slice none 0 0, .int .i64 0] 41) = w1 at *
  rw [hszx] at hD
  clear hX0 hcX hsX hszx
  have hlD := hD.lt
  have hlX := hX.lt
  have x0 := hX.cell 0 rfl
  have x1 := hX.cell 1 rfl
  have x2 := hX.cell 2 rfl
  have x3 := hX.cell 3 rfl
  have x4 := hX.cell 4 rfl
  have hck := (Chg.refl NoB w1).alloc (.cells #[.int .i64 7] 3)
  have hkv : Sees (w1.alloc (.cells #[.int .i64 7] 3)) cellsI (.slice (some ⟨w1.heap.size, 0, none⟩) 1 1) [7] := sees_at (l := [7]) (At.new w1 _ 3)
  have hcw2 := hc.trans hck (by simp [NoB])
  have hhe := heard_yes bc bm me _ _ (h.no hcw2) ⟨kind, frm, dst, p.e.tx, ms⟩ (.slice ao ms.length c) (.slice (some ⟨w1.heap.size, 0, none⟩) 1 1) [7] (hv.no hcw2) hl hkv (by simp) hB
  simp only at hhe
  rw [(h.no hcw2).prs_some] at hhe
  unfold msgV ptr encP at hhe
  simp only at hhe
  go_upto_region 4 with (first | (go_at_call 25; refine hhe.mono ?_; clear hhe; rintro e w2 ⟨rfl, hc2⟩; have hD1 := (hD.chg hck (by simp [NoB])).chg hc2 (by simp [NoB]); have hX1 := (hX.chg hck (by simp [NoB])).chg hc2 (by simp [NoB]); have h1 := (h.no hcw2).no hc2; have hcw3 := hcw2.trans hc2 (by simp [NoB]); have hEH := h1.own p (by simp); have hE := hEH.hd; have e5 := hE.cell 5 rfl; have hlt := hE.lt; rw [hsu] at e5) | fail)
  have hA := hEH.a
  rw [hao] at hA
  have e3 := hE.cell 3 rfl
  rw [hao] at e3
  have e3' : w2.drew.cell? ⟨p.b, 3, none⟩ = some (.map (some ba)) := e3
  have x1' : w2.drew.cell? ⟨w.heap.size, 1, none⟩ = some (.int .i64 frm) := hX1.cell 1 rfl
  have hltX := hX1.lt
  go_still_tail 6, (by kernel_rfl)
  change wpList _ _ _ _ _ w2.drew
  have hkey := key_lit (n := frm) hfr
  refine wpList_drop (hA.drew) law3 encN_inj Try.underlying59 rfl _ _ rfl rfl frm rfl hkey ?_
  intro w4 hm4 hg4
  have hcd4 : Chg (· = ba) w2 w4 := (((Chg.refl NoB w2).drew).mono (T := (· = ba)) (by simp [NoB])).grown hg4 (by simp)
  change SMap w4 ba (mdel (setP p.e.aw) frm) at hm4
  rw [setP_drop] at hm4
  obtain ⟨h4, hcb4⟩ := h1.awdel hao hm4 hcd4
  have hD4 := hD1.chg hcd4 (fun e => MapIs.ne_at hA hD1 e.symm)
  have hE4 := (h4.own (awE p (dropI p.e.aw frm)) (by simp)).hd
  have e3 : w4.cell? ⟨p.b, 3, none⟩ = some (.map (some ba)) := by rw [← hao]; exact hE4.cell 3 rfl
  have hlt4 : p.b < w4.heap.size := hE4.lt
  have hlen := hm4.len (ty := 3) Try.underlying59
  have hln : (setP (dropI p.e.aw frm)).length = (dropI p.e.aw frm).length := by simp [setP]
  rw [hln] at hlen
  clear hln
  rw [hmo] at hlen
  go_upto_region 7 with (fail)
  have c1 := h4.hd.cell 1 rfl
  have e0 := hE4.cell 0 rfl
  have c1' : w4.drew.cell? ⟨bc, 1, none⟩ = some (.map (some bm)) := c1
  have e0' : w4.drew.cell? ⟨p.b, 0, none⟩ = some (.int .i64 p.e.tx) := e0
  have hlc := h4.hd.lt
  go_still_tail 8, (by kernel_rfl)
  change wpList _ _ _ _ _ w4.drew
  refine wpList_drop (h4.mp.drew) law3 encN_inj Try.underlying54 rfl _ _ rfl rfl p.e.tx rfl (key_lit hti) ?_
  intro w5 hm5 hg5
  have hcd : Chg NoB w4 w4.drew := (Chg.refl NoB w4).drew
  obtain ⟨h5, hc5⟩ := (h4.no hcd).dropped (p := awE p (dropI p.e.aw frm)) hm5 hg5
  have hc45 : Chg (· = bm) w4 w5 := (hcd.mono (T := (· = bm)) (by simp [NoB])).trans hc5 (fun _ _ h => h)
  have hpm : bm ∉ blocks p := h1.bm_not (p := p) (by simp)
  have hE5 := hE4.chg hc45 (fun e => hpm (by rw [← e]; exact mem_blocks.2 (.inl rfl)))
  have hD5 := hD4.chg hc45 (fun e => h4.mp.ne_at hD4 e.symm)
  have e0 : w5.cell? ⟨p.b, 0, none⟩ = some (.int .i64 p.e.tx) := hE5.cell 0 rfl
  have hlt5 : p.b < w5.heap.size := hE5.lt
  have hb0 := h.mp.lt
  clear c1 c1' e0' hlen e3
  go_wp2_with (first | (refine wpList_deal hD5 rfl _ _ rfl rfl (.slice none 0 0) (10) (p.e.tx) (.slice none 0 0) (0) rfl IsSl.nil IsSl.nil ?_; intro w6 hD6 hc6 hs6) | fail)
  exact bodyPost_ret (ret_deal rfl rfl hD6) rfl ⟨_, rfl, ⟨_, _, rfl, MRow.nil _ _, RowOf.nil _ _⟩, h5.apart_at hD5 (by decide) (by decide) (by decide) hc6, (((hcw3.mono (T := fun k => k = bm ∨ k ∈ blocks p) (by simp [NoB])).trans hcb4 (fun _ _ h => .inr h)).trans hc45 (fun _ _ h => .inl h)).trans hc6 (fun j h1 h2 => by omega)⟩
end Go.Proofs.Ythpnhndligblaaa
