/- The coordinator: giving up, Quit. Conditions: numbers within int. -/
import Derived.Test.YthpnhndligblaaaCf
namespace Go.Proofs.Ythpnhndligblaaa
open Go.RowKit Go.Maps Go.BigFrame
/-- Who is told that it is given up. -/
def quitN (e : En) : List Int := if e.phase = 4 then sortI (sortI e.aw ++ e.yes) else e.mem
theorem S1 {w w' : World} {a : Addr} {v : Value} (h : w.cell? a = some v) (c : Chg NoB w w') : w'.cell? a = some v := c.cell h (by simp [NoB])
theorem RowOf.ownB {α : Type} {k : Nat} {e : TypeId} {enc : α → List Value} {w : World} {base : Nat} {ad : Addr} {n c : Nat} {l : List α} (h : RowOf w base e k enc (.slice (some ad) n c) l) : (Value.slice (some ad) n c).ownBlock = some ad.block := by
  obtain ⟨ao, cap, hv, _, _, hs⟩ := h.shape
  simp only [Value.slice.injEq] at hv
  obtain ⟨rfl, _, _⟩ := hv
  obtain ⟨g, rfl, _⟩ := hs ad rfl
  rfl
set_option maxHeartbeats 1000000 in
set_option maxRecDepth 100000 in
/-- Giving up: the entry is dropped, and its nodes are told. -/
theorem giveUp_any (bc bm : Nat) (me : Int) (l1 l2 : List Ep) (p : Ep) (w : World) (h : CAt w bc bm me (l1 ++ p :: l2)) (ht : I64 p.e.tx) (hao : p.e.phase = 4 → p.ao ≠ none) (hml : p.e.mem.length ≤ 1000) (hal : p.e.aw.length ≤ 1000) (hyl : p.e.yes.length ≤ 1000) :
    Calls Try.prog 26 #[.pointer (some ⟨bc, 0, none⟩), .pointer (some ⟨p.b, 0, none⟩)] w fun e w' => ∃ v, e = .returned v ∧ DealIs w' w.heap.size v ⟨toM 6 me p.e.tx p.e.mem (quitN p.e), 0, 0, [], 2⟩ ∧ CAt w' bc bm me (l1 ++ l2) ∧ Chg (· = bm) w w' := by
  go_enter Try.func26, Try.ntmps26
  go_upto_region 1 with (fail)
  have hD := deal_new w
  have hc := deal_chg w
  generalize w.alloc (.cells #[.slice none 0 0, .int .i64 0, .int .i64 0, .int .i64 0, .int .i64 0, .string ⟨#[]⟩, .bool false, .string ⟨#[]⟩, .bool false, .string ⟨#[]⟩, .int .i64 0, .slice none 0 0, .slice none 0 0, .slice none 0 0, .slice none 0 0, .slice none 0 0, .slice none 0 0, .int .i64 0] 41) = w1 at *
  have hlD := hD.lt
  have h1 := h.no hc
  have hEH := h1.own p (by simp)
  have hE := hEH.hd
  have e1 := hE.cell 1 rfl
  have e4 := hE.cell 4 rfl
  have e2 := hE.cell 2 rfl
  have hlt := hE.lt
  obtain ⟨am, km, hmv, _⟩ := hEH.m.shape
  rw [hmv] at e2
  have hneD : ∀ k ∈ blocks p, k ≠ w.heap.size := fun k hk => by have := (h.own p (by simp)).lt k hk; omega
  by_cases hph : p.e.phase = 4
  · have hq : quitN p.e = sortI (sortI p.e.aw ++ p.e.yes) := by unfold quitN; rw [if_pos hph]
    obtain ⟨ba, hba⟩ : ∃ ba, p.ao = some ba := Option.ne_none_iff_exists'.1 (hao hph)
    have hA := hEH.a
    rw [hba] at hA
    rw [hph] at e1
    obtain ⟨ay, ky, hyv, _⟩ := hEH.y.shape
    rw [hyv] at e4
    have hop := open_any p ba w1.drew hE.drew hba hA.drew (by omega)
    have hcc := fun W (hW : Chg NoB w1 W) v (hv : IRow W w1.heap.size v (sortI p.e.aw)) => concat_any W.heap.size v p.yv (sortI p.e.aw) p.e.yes (W.alloc (.cells #[v, p.yv] 33)) (At.new W [v, p.yv] 33) (Sees.of_row (hv.alloc _)) ((Sees.of_row (hEH.y.chg hW (by simp [NoB]))).alloc _) (by simp [sortI]; omega) (by omega)
    rw [hyv] at hcc
    go_upto_region 3 with (fail)
    have hSd : w1.drew.cell? ⟨p.b, 4, none⟩ = some (.slice ay p.e.yes.length ky) := e4
    clear e4
    go_region_held3 (fun W => W.cell? ⟨p.b, 4, none⟩ = some (.slice ay p.e.yes.length ky)) (first | assumption | exact S1 (by assumption) ((Chg.refl NoB _).alloc _)) (first
      | (go_at_call 28; refine hop.mono ?_; clear hop; rintro e w2 ⟨v2, rfl, hr2, hc2⟩; have hS2 := S1 hSd hc2; have hcc' := hcc w2 (((Chg.refl NoB w1).drew).trans hc2 (by simp [NoB])) v2 hr2; clear hcc; obtain ⟨a2, n2, k2, rfl⟩ := hr2.isSl)
      | (go_at_call 38; refine hcc'.mono ?_; clear hcc'; rintro e w2b ⟨v2b, rfl, hr2b, hc2b⟩; obtain ⟨a2b, n2b, k2b, rfl⟩ := hr2b.isSl; have hS2b := S1 (S1 hS2 ((Chg.refl NoB _).alloc _)) hc2b))
    have hc1b : Chg NoB w1 w2b := ((((Chg.refl NoB w1).drew).trans hc2 (by simp [NoB])).alloc _).trans hc2b (by simp [NoB])
    have hso := sort_any 0 _ _ w2b (hr2b.mono (Nat.zero_le _)) (by simp [sortI]; omega)
    have hblow : ∀ g, (Value.slice a2b n2b k2b).ownBlock = some g → w1.heap.size ≤ g := fun g hg => by
      have := (hr2b.ge g hg).1
      have := hc2.size
      simp at *
      omega
    go_upto_region 5 with (first | (go_at_call 39; refine hso.mono ?_; clear hso; rintro e w3 ⟨rfl, hns, hc3⟩) | fail)
    have hc13 : Chg NoB w1 w3 := hc1b.trans hc3 (fun j h1 h2 => by have := hblow j h2; omega)
    have hcw3 := hc.trans hc13 (by simp [NoB])
    have hs13 := hc13.size
    have hD3 := hD.chg hc13 (by simp [NoB])
    have h3 := h1.no hc13
    have hEH3 := h3.own p (by simp)
    have hE3 := hEH3.hd
    obtain ⟨an0, kn0, hsh, _⟩ := hns.shape
    simp only [Value.slice.injEq] at hsh
    obtain ⟨h5a, hn5, h5c⟩ := hsh
    subst n2b
    subst an0
    subst kn0
    have hnl : (sortI (sortI p.e.aw ++ p.e.yes)).length ≤ 10000 := by simp [sortI]; omega
    rw [← hq] at hns hnl ⊢
    generalize hNS : quitN p.e = ns at *
    have HQ := Lib.hid hNS
    clear hq hNS
    have c1 := h3.hd.cell 1 rfl
    have e0 := hE3.cell 0 rfl
    have hlt3 := hE3.lt
    have hltc3 := h3.hd.lt
    have c1' : w3.drew.cell? ⟨bc, 1, none⟩ = some (.map (some bm)) := c1
    have e0' : w3.drew.cell? ⟨p.b, 0, none⟩ = some (.int .i64 p.e.tx) := e0
    go_upto_region 5 with (fail)
    go_still_tail 8, (by kernel_rfl)
    change wpList _ _ _ _ _ w3.drew
    refine wpList_drop (h3.mp.drew) law3 encN_inj Try.underlying54 rfl _ _ rfl rfl p.e.tx rfl (key_lit ht) ?_
    intro w4 hm4 hg4
    have hcd : Chg NoB w3 w3.drew := (Chg.refl NoB w3).drew
    obtain ⟨h4, hc4⟩ := (h3.no hcd).dropped hm4 hg4
    have hc34 : Chg (· = bm) w3 w4 := (hcd.mono (T := (· = bm)) (by simp [NoB])).trans hc4 (fun _ _ h => h)
    have hpm : bm ∉ blocks p := h3.bm_not (p := p) (by simp)
    have hEH4 := hEH3.chg hc34 (fun k hk e => hpm (by rw [← e]; exact hk))
    have hD4 := hD3.chg hc34 (fun e => h3.mp.ne_at hD3 e.symm)
    have hns4 : IRow w4 0 (.slice a2b ns.length k2b) ns := hns.chg hc34 (fun g hg e => by subst e; exact hns.apart_map h3.mp hg)
    have hto := to_any bc (.map (some bm)) me 6 p (.slice a2b ns.length k2b) ns w4 h4.hd hEH4.hd (Sees.of_row hEH4.m) (Sees.of_row hns4) (by omega) (by omega)
    have hmp3 := h3.mp
    clear c1 e0 c1' e0' hlt3 hltc3 h3 hEH3 hE3 hD3 hns
    go_wp2_with (first | (go_at_call 24; refine hto.mono ?_; clear hto; rintro e w5 ⟨v5, rfl, hM5, hc5⟩; obtain ⟨a5, n5, k5, rfl⟩ := hM5.isSl; have hD5 := hD4.chg hc5 (by simp [NoB])) | (refine wpList_deal hD5 rfl _ _ rfl rfl (.slice a5 n5 k5) 0 0 (.slice none 0 0) 2 rfl ⟨_, _, _, rfl⟩ IsSl.nil ?_; intro w6 hD6 hc6 hs6) | fail)
    have hs4 := hc34.size
    have hs5 := hc5.size
    refine bodyPost_ret (ret_deal rfl rfl hD6) rfl ⟨_, rfl, ⟨.slice a5 n5 k5, .slice none 0 0, rfl, ?_, RowOf.nil _ _⟩, (h4.no hc5).apart_at hD5 (by decide) (by decide) (by decide) hc6, ?_⟩
    · show MRow _ _ _ (toM 6 me p.e.tx p.e.mem (quitN p.e))
      rw [HQ.out]
      exact (hM5.chg hc6 (fun k hk e => by omega)).mono (by omega)
    · exact (((hcw3.mono (T := (· = bm)) (by simp [NoB])).trans hc34 (fun _ _ h => h)).trans hc5 (by simp [NoB])).trans hc6 (fun j h1 h2 => by omega)
  · have hq : quitN p.e = p.e.mem := by unfold quitN; rw [if_neg hph]
    have hz : (p.e.phase == 4) = false := by simpa using hph
    go_upto_region 5 with (fail)
    have hns := hEH.m
    rw [hmv] at hns
    have h3 := h1
    have hEH3 := hEH
    have hE3 := hE
    have hD3 := hD
    have hcw3 := hc
    have hnl : p.e.mem.length ≤ 10000 := by omega
    have HQ := Lib.hid hq
    clear hq
    generalize hW3 : w1 = w3 at *
    have c1 := h3.hd.cell 1 rfl
    have e0 := hE3.cell 0 rfl
    have hlt3 := hE3.lt
    have hltc3 := h3.hd.lt
    have c1' : w3.drew.cell? ⟨bc, 1, none⟩ = some (.map (some bm)) := c1
    have e0' : w3.drew.cell? ⟨p.b, 0, none⟩ = some (.int .i64 p.e.tx) := e0
    go_upto_region 5 with (fail)
    go_still_tail 8, (by kernel_rfl)
    change wpList _ _ _ _ _ w3.drew
    refine wpList_drop (h3.mp.drew) law3 encN_inj Try.underlying54 rfl _ _ rfl rfl p.e.tx rfl (key_lit ht) ?_
    intro w4 hm4 hg4
    have hcd : Chg NoB w3 w3.drew := (Chg.refl NoB w3).drew
    obtain ⟨h4, hc4⟩ := (h3.no hcd).dropped hm4 hg4
    have hc34 : Chg (· = bm) w3 w4 := (hcd.mono (T := (· = bm)) (by simp [NoB])).trans hc4 (fun _ _ h => h)
    have hpm : bm ∉ blocks p := h3.bm_not (p := p) (by simp)
    have hEH4 := hEH3.chg hc34 (fun k hk e => hpm (by rw [← e]; exact hk))
    have hD4 := hD3.chg hc34 (fun e => h3.mp.ne_at hD3 e.symm)
    have hns4 : IRow w4 0 (.slice am p.e.mem.length km) p.e.mem := hns.chg hc34 (fun g hg e => by subst e; exact hns.apart_map h3.mp hg)
    have hto := to_any bc (.map (some bm)) me 6 p (.slice am p.e.mem.length km) p.e.mem w4 h4.hd hEH4.hd (Sees.of_row hEH4.m) (Sees.of_row hns4) (by omega) (by omega)
    have hmp3 := h3.mp
    clear c1 e0 c1' e0' hlt3 hltc3 h3 hEH3 hE3 hD3 hns
    go_wp2_with (first | (go_at_call 24; refine hto.mono ?_; clear hto; rintro e w5 ⟨v5, rfl, hM5, hc5⟩; obtain ⟨a5, n5, k5, rfl⟩ := hM5.isSl; have hD5 := hD4.chg hc5 (by simp [NoB])) | (refine wpList_deal hD5 rfl _ _ rfl rfl (.slice a5 n5 k5) 0 0 (.slice none 0 0) 2 rfl ⟨_, _, _, rfl⟩ IsSl.nil ?_; intro w6 hD6 hc6 hs6) | fail)
    have hs4 := hc34.size
    have hs5 := hc5.size
    refine bodyPost_ret (ret_deal rfl rfl hD6) rfl ⟨_, rfl, ⟨.slice a5 n5 k5, .slice none 0 0, rfl, ?_, RowOf.nil _ _⟩, (h4.no hc5).apart_at hD5 (by decide) (by decide) (by decide) hc6, ?_⟩
    · show MRow _ _ _ (toM 6 me p.e.tx p.e.mem (quitN p.e))
      rw [HQ.out]
      exact (hM5.chg hc6 (fun k hk e => by omega)).mono (by omega)
    · exact (((hcw3.mono (T := (· = bm)) (by simp [NoB])).trans hc34 (fun _ _ h => h)).trans hc5 (by simp [NoB])).trans hc6 (fun j h1 h2 => by omega)
end Go.Proofs.Ythpnhndligblaaa
