/- The coordinator: Sure, giving up, Quit. Conditions: numbers within int. -/
import Derived.Test.YthpnhndligblaaaCe
namespace Go.Proofs.Ythpnhndligblaaa
open Go.RowKit Go.Maps Go.BigFrame
theorem sure_nil (tx : Int) (w : World) : Calls Try.prog 11 #[.pointer none, .int .i64 tx] w fun e w' => ∃ v, e = .returned v ∧ DealIs w' w.heap.size v noDeal ∧ Chg NoB w w' := by
  go_enter Try.func11, Try.ntmps11
  go_upto_region 1 with (fail)
  have hD := deal_new w
  have hc := deal_chg w
  generalize w.alloc (.cells #[.slice none 0 0, .int .i64 0, .int .i64 0, .int .i64 0, .int .i64 0, .string ⟨#[]⟩, .bool false, .string ⟨#[]⟩, .bool false, .string ⟨#[]⟩, .int .i64 0, .slice none 0 0, .slice none 0 0, .slice none 0 0, .slice none 0 0, .slice none 0 0, .slice none 0 0, .int .i64 0] 41) = w1 at *
  have hlD := hD.lt
  have ho := of_nil tx w1
  go_wp2_with (first | (go_at_call 20; refine ho.mono ?_; clear ho; rintro e w1' ⟨rfl, hw1⟩; subst w1') | (refine wpList_deal hD rfl _ _ rfl rfl (.slice none 0 0) (0) (0) (.slice none 0 0) (0) rfl IsSl.nil IsSl.nil ?_; intro w2 hD2 hc2 hs2) | fail)
  exact bodyPost_ret (ret_deal rfl rfl hD2) rfl ⟨_, rfl, DealIs.zero _ _, hc.fresh hc2 (Nat.le_refl _)⟩
theorem sure_none (bc bm : Nat) (me tx : Int) (l : List Ep) (w : World) (h : CAt w bc bm me l) (ht : I64 tx) (hno : tx ∉ l.map (·.e.tx)) :
    Calls Try.prog 11 #[.pointer (some ⟨bc, 0, none⟩), .int .i64 tx] w fun e w' => ∃ v, e = .returned v ∧ DealIs w' w.heap.size v noDeal ∧ Chg NoB w w' := by
  go_enter Try.func11, Try.ntmps11
  go_upto_region 1 with (fail)
  have hD := deal_new w
  have hc := deal_chg w
  generalize w.alloc (.cells #[.slice none 0 0, .int .i64 0, .int .i64 0, .int .i64 0, .int .i64 0, .string ⟨#[]⟩, .bool false, .string ⟨#[]⟩, .bool false, .string ⟨#[]⟩, .int .i64 0, .slice none 0 0, .slice none 0 0, .slice none 0 0, .slice none 0 0, .slice none 0 0, .slice none 0 0, .int .i64 0] 41) = w1 at *
  have hlD := hD.lt
  have h1 := h.no hc
  have ho := of_none bc bm me tx l w1 h1 ht hno
  go_wp2_with (first | (go_at_call 20; refine ho.mono ?_; clear ho; rintro e w1' ⟨rfl, hw1⟩; subst w1') | (refine wpList_deal hD rfl _ _ rfl rfl (.slice none 0 0) (0) (0) (.slice none 0 0) (0) rfl IsSl.nil IsSl.nil ?_; intro w2 hD2 hc2 hs2) | fail)
  exact bodyPost_ret (ret_deal rfl rfl hD2) rfl ⟨_, rfl, DealIs.zero _ _, hc.fresh hc2 (Nat.le_refl _)⟩
theorem sure_no (bc bm : Nat) (me : Int) (l1 l2 : List Ep) (p : Ep) (w : World) (h : CAt w bc bm me (l1 ++ p :: l2)) (ht : I64 p.e.tx) (hp : p.e.phase ≠ 5 ∨ p.e.sure = true) :
    Calls Try.prog 11 #[.pointer (some ⟨bc, 0, none⟩), .int .i64 p.e.tx] w fun e w' => ∃ v, e = .returned v ∧ DealIs w' w.heap.size v noDeal ∧ Chg NoB w w' := by
  go_enter Try.func11, Try.ntmps11
  go_upto_region 1 with (fail)
  have hD := deal_new w
  have hc := deal_chg w
  generalize w.alloc (.cells #[.slice none 0 0, .int .i64 0, .int .i64 0, .int .i64 0, .int .i64 0, .string ⟨#[]⟩, .bool false, .string ⟨#[]⟩, .bool false, .string ⟨#[]⟩, .int .i64 0, .slice none 0 0, .slice none 0 0, .slice none 0 0, .slice none 0 0, .slice none 0 0, .slice none 0 0, .int .i64 0] 41) = w1 at *
  have hlD := hD.lt
  have h1 := h.no hc
  have ho := of_some bc bm me l1 l2 p w1 h1 ht
  have hE := (h1.own p (by simp)).hd
  have e1 := hE.cell 1 rfl
  have e5 := hE.cell 5 rfl
  have hlt := hE.lt
  by_cases hph : p.e.phase = 5
  · rcases hp with hp | hp
    · exact absurd hph hp
    · rw [hph] at e1
      rw [hp] at e5
      go_wp2_with (first | (go_at_call 20; refine ho.mono ?_; clear ho; rintro e w1' ⟨rfl, hw1⟩; subst w1') | (refine wpList_deal hD rfl _ _ rfl rfl (.slice none 0 0) (0) (0) (.slice none 0 0) (0) rfl IsSl.nil IsSl.nil ?_; intro w2 hD2 hc2 hs2) | fail)
      exact bodyPost_ret (ret_deal rfl rfl hD2) rfl ⟨_, rfl, DealIs.zero _ _, hc.fresh hc2 (Nat.le_refl _)⟩
  · have hz2 : (p.e.phase != 5) = true := by simpa using hph
    go_wp2_with (first | (go_at_call 20; refine ho.mono ?_; clear ho; rintro e w1' ⟨rfl, hw1⟩; subst w1') | (refine wpList_deal hD rfl _ _ rfl rfl (.slice none 0 0) (0) (0) (.slice none 0 0) (0) rfl IsSl.nil IsSl.nil ?_; intro w2 hD2 hc2 hs2) | fail)
    exact bodyPost_ret (ret_deal rfl rfl hD2) rfl ⟨_, rfl, DealIs.zero _ _, hc.fresh hc2 (Nat.le_refl _)⟩
set_option maxHeartbeats 2000000 in
theorem sure_ok (bc bm : Nat) (me : Int) (l1 l2 : List Ep) (p : Ep) (ba : Nat) (w : World) (h : CAt w bc bm me (l1 ++ p :: l2)) (ht : I64 p.e.tx) (hp : p.e.phase = 5) (hsu : p.e.sure = false) (hao : p.ao = some ba) (hml : p.e.mem.length ≤ 1073741824) (hal : p.e.aw.length ≤ 1073741824) :
    Calls Try.prog 11 #[.pointer (some ⟨bc, 0, none⟩), .int .i64 p.e.tx] w fun e w' => ∃ v, e = .returned v ∧ DealIs w' w.heap.size v ⟨toM 5 me p.e.tx p.e.mem (sortI p.e.aw), 0, 0, [], 1⟩ ∧ ∃ p', p'.e = { p.e with sure := true } ∧ p'.ao = p.ao ∧ CAt w' bc bm me (l1 ++ p' :: l2) ∧ Chg (· ∈ blocks p) w w' ∧ (∀ k ∈ blocks p', k ∈ blocks p ∨ w.heap.size ≤ k) := by
  go_enter Try.func11, Try.ntmps11
  go_upto_region 1 with (fail)
  have hD := deal_new w
  have hc := deal_chg w
  generalize w.alloc (.cells #[.slice none 0 0, .int .i64 0, .int .i64 0, .int .i64 0, .int .i64 0, .string ⟨#[]⟩, .bool false, .string ⟨#[]⟩, .bool false, .string ⟨#[]⟩, .int .i64 0, .slice none 0 0, .slice none 0 0, .slice none 0 0, .slice none 0 0, .slice none 0 0, .slice none 0 0, .int .i64 0] 41) = w1 at *
  have hlD := hD.lt
  have h1 := h.no hc
  have ho := of_some bc bm me l1 l2 p w1 h1 ht
  have hEH := h1.own p (by simp)
  have hE := hEH.hd
  have e1 := hE.cell 1 rfl
  have e5 := hE.cell 5 rfl
  have f5 := hE.frozen 5
  rw [hp] at e1
  rw [hsu] at e5
  have hlt := hE.lt
  go_upto_region 5 with (first | (go_at_call 20; refine ho.mono ?_; clear ho; rintro e w1' ⟨rfl, hw1⟩; subst w1') | fail)
  have hE2 : EHas (w1.setCell ⟨p.b, 5, none⟩ (.bool true)) ⟨{ p.e with sure := true }, p.b, p.mv, p.ao, p.yv⟩ := EHas.put hE 5 _ rfl rfl hEH.m hEH.y hEH.a
  have hcs : Chg (· = p.b) w1 (w1.setCell ⟨p.b, 5, none⟩ (.bool true)) := (Chg.refl (· = p.b) w1).setCell (p := ⟨p.b, 5, none⟩) (fun _ => rfl) _
  have hcb := hcs.mono (T := (· ∈ blocks p)) (fun k _ hk => by rw [hk]; exact mem_blocks.2 (.inl rfl))
  have h2 := h1.step hcb hE2 rfl rfl (fun k hk => .inl hk) (hE2.nd (fun g hg => my_of_nd h.nd g hg))
  have hneD : p.b ≠ w.heap.size := by have := (h.own p (by simp)).hd.lt; omega
  have hD2 := hD.chg hcs (fun e => hneD e.symm)
  generalize w1.setCell ⟨p.b, 5, none⟩ (.bool true) = w2 at *
  have hA2 := hE2.a
  simp only [hao] at hA2
  have hop := open_any ⟨{ p.e with sure := true }, p.b, p.mv, p.ao, p.yv⟩ ba w2 hE2.hd hao hA2 (by simp only; omega)
  have hto := fun W (hW : Chg NoB w2 W) v (hv : Sees W cellsI v (sortI p.e.aw)) => to_any bc (.map (some bm)) me 5 ⟨{ p.e with sure := true }, p.b, p.mv, p.ao, p.yv⟩ v (sortI p.e.aw) W (h2.hd.chg hW (by simp [NoB])) (hE2.hd.chg hW (by simp [NoB])) ((Sees.of_row hE2.m).no hW) hv (by simp only; omega) (by simp [sortI]; omega)
  simp only at hop hto
  clear e1 e5 f5 hlt
  go_wp2_with (first | (go_at_call 28; refine hop.mono ?_; clear hop; rintro e w3 ⟨v3, rfl, hr3, hc3⟩; have hto' := hto w3 hc3 v3 (Sees.of_row hr3); clear hto; obtain ⟨a3, n3, k3, rfl⟩ := hr3.isSl) | (go_at_call 24; refine hto'.mono ?_; clear hto'; rintro e w5 ⟨v5, rfl, hM5, hc5⟩; obtain ⟨a5, n5, k5, rfl⟩ := hM5.isSl; have hD5 := (hD2.chg hc3 (by simp [NoB])).chg hc5 (by simp [NoB])) | (refine wpList_deal hD5 rfl _ _ rfl rfl (.slice a5 n5 k5) (0) (0) (.slice none 0 0) (1) rfl ⟨_, _, _, rfl⟩ IsSl.nil ?_; intro w6 hD6 hc6 hs6) | fail)
  have hs5 := hc5.size
  have hs3 := hc3.size
  have hs2 := hcs.size
  have hw1 := hc.size
  have hbw : ∀ k ∈ blocks p, k < w.heap.size := (h.own p (by simp)).lt
  refine bodyPost_ret (ret_deal rfl rfl hD6) rfl ⟨_, rfl, ⟨.slice a5 n5 k5, .slice none 0 0, rfl, ?_, RowOf.nil _ _⟩, (⟨{ p.e with sure := true }, p.b, p.mv, p.ao, p.yv⟩ : Ep), rfl, rfl, ((h2.no hc3).no hc5).apart_at hD5 (by decide) (by decide) (by decide) hc6, ?_, fun k hk => .inl hk⟩
  · exact (hM5.chg hc6 (fun k hk e => by omega)).mono (by omega)
  · exact ((((hc.mono (T := (· ∈ blocks p)) (by simp [NoB])).trans hcb (fun _ _ h => h)).trans hc3 (by simp [NoB])).trans hc5 (by simp [NoB])).trans hc6 (fun j h1 h2 => by omega)
end Go.Proofs.Ythpnhndligblaaa
