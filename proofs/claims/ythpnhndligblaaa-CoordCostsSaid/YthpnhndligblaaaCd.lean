/- The coordinator: deals; Ask. Conditions: numbers within int. -/
import Derived.Test.YthpnhndligblaaaLg
namespace Go.Proofs.Ythpnhndligblaaa
open Go.RowKit Go.Maps Go.BigFrame
/-- What is to be done, as data. -/
structure Dl where
  send : List Mg
  k : Int
  tx : Int
  ws : List Int
  res : Int
def noDeal : Dl := ⟨[], 0, 0, [], 0⟩
def DealIs (w : World) (base : Nat) (v : Value) (d : Dl) : Prop := ∃ sv mv, v = .agg (dealC sv d.k d.tx mv d.res).toArray ∧ MRow w base sv d.send ∧ IRow w base mv d.ws
theorem DealIs.zero (w : World) (base : Nat) : DealIs w base (.agg (dealC (.slice none 0 0) 0 0 (.slice none 0 0) 0).toArray) noDeal := ⟨_, _, rfl, MRow.nil _ _, RowOf.nil _ _⟩
theorem DealIs.res (w : World) (base : Nat) (r : Int) : DealIs w base (.agg (dealC (.slice none 0 0) 0 0 (.slice none 0 0) r).toArray) ⟨[], 0, 0, [], r⟩ := ⟨_, _, rfl, MRow.nil _ _, RowOf.nil _ _⟩
theorem DealIs.chg {S : Nat → Prop} {w w' : World} {base : Nat} {v : Value} {d : Dl} (h : DealIs w base v d) (c : Chg S w w') (hS : ∀ k, base ≤ k → ¬ S k) : DealIs w' base v d := by
  obtain ⟨sv, mv, h1, h2, h3⟩ := h
  exact ⟨sv, mv, h1, h2.chg c hS, h3.chg c (fun g hg => hS g (h3.ge g hg).1)⟩
theorem DealIs.no {w w' : World} {base : Nat} {v : Value} {d : Dl} (h : DealIs w base v d) (c : Chg NoB w w') : DealIs w' base v d := h.chg c (by simp [NoB])
theorem DealIs.mono {w : World} {base base' : Nat} {v : Value} {d : Dl} (h : DealIs w base v d) (hb : base' ≤ base) : DealIs w base' v d := by
  obtain ⟨sv, mv, h1, h2, h3⟩ := h
  exact ⟨sv, mv, h1, h2.mono hb, h3.mono hb⟩
theorem MRow.isSl {w : World} {base : Nat} {v : Value} {M : List Mg} (h : MRow w base v M) : IsSl v := by
  obtain ⟨ao, c, h, _⟩ := h.shape
  exact ⟨_, _, _, h⟩
theorem IRow.isSl {w : World} {base : Nat} {v : Value} {l : List Int} (h : IRow w base v l) : IsSl v := by
  obtain ⟨ao, n, c, h⟩ := RowOf.slice h
  exact ⟨_, _, _, h⟩
/-- A deal's block, as it is laid. -/
theorem deal_new (w : World) : At (w.alloc (.cells #[.slice none 0 0, .int .i64 0, .int .i64 0, .int .i64 0, .int .i64 0, .string ⟨#[]⟩, .bool false, .string ⟨#[]⟩, .bool false, .string ⟨#[]⟩, .int .i64 0, .slice none 0 0, .slice none 0 0, .slice none 0 0, .slice none 0 0, .slice none 0 0, .slice none 0 0, .int .i64 0] 41)) w.heap.size (dealC (.slice none 0 0) 0 0 (.slice none 0 0) 0) 41 := At.new w _ _
theorem deal_chg (w : World) : Chg NoB w (w.alloc (.cells #[.slice none 0 0, .int .i64 0, .int .i64 0, .int .i64 0, .int .i64 0, .string ⟨#[]⟩, .bool false, .string ⟨#[]⟩, .bool false, .string ⟨#[]⟩, .int .i64 0, .slice none 0 0, .slice none 0 0, .slice none 0 0, .slice none 0 0, .slice none 0 0, .slice none 0 0, .int .i64 0] 41)) := (Chg.refl NoB w).alloc _
theorem Chg.fresh {w w1 w2 : World} {b : Nat} (h : Chg NoB w w1) (c : Chg (· = b) w1 w2) (hb : w.heap.size ≤ b) : Chg NoB w w2 := h.trans c (fun j h1 h2 => by omega)
theorem ask_nil (tx : Int) (w : World) : Calls Try.prog 9 #[.pointer none, .int .i64 tx] w fun e w' => ∃ v, e = .returned (.tuple #[v, .int .i64 2]) ∧ DealIs w' w.heap.size v noDeal ∧ Chg NoB w w' := by
  have ho := fun W => of_nil tx W
  go_enter Try.func9, Try.ntmps9
  go_upto_region 1 with (fail)
  have hD := deal_new w
  have hc := deal_chg w
  generalize w.alloc (.cells #[.slice none 0 0, .int .i64 0, .int .i64 0, .int .i64 0, .int .i64 0, .string ⟨#[]⟩, .bool false, .string ⟨#[]⟩, .bool false, .string ⟨#[]⟩, .int .i64 0, .slice none 0 0, .slice none 0 0, .slice none 0 0, .slice none 0 0, .slice none 0 0, .slice none 0 0, .int .i64 0] 41) = w1 at *
  have hlD := hD.lt
  go_wp2_with (first | (go_at_call 20; refine (ho _).mono ?_; clear ho; rintro e w1 ⟨rfl, hw1⟩; subst w1) | (refine wpList_deal hD rfl _ _ rfl rfl (.slice none 0 0) 0 0 (.slice none 0 0) 0 rfl IsSl.nil IsSl.nil ?_; intro w2 hD2 hc2 hs2) | fail)
  exact bodyPost_ret (ret_deal2 rfl rfl hD2 rfl) rfl ⟨_, rfl, DealIs.zero _ _, hc.fresh hc2 (Nat.le_refl _)⟩
theorem ask_none (bc bm : Nat) (me tx : Int) (l : List Ep) (w : World) (h : CAt w bc bm me l) (ht : I64 tx) (hno : tx ∉ l.map (·.e.tx)) :
    Calls Try.prog 9 #[.pointer (some ⟨bc, 0, none⟩), .int .i64 tx] w fun e w' => ∃ v, e = .returned (.tuple #[v, .int .i64 160]) ∧ DealIs w' w.heap.size v noDeal ∧ Chg NoB w w' := by
  go_enter Try.func9, Try.ntmps9
  go_upto_region 1 with (fail)
  have hD := deal_new w
  have hc := deal_chg w
  generalize w.alloc (.cells #[.slice none 0 0, .int .i64 0, .int .i64 0, .int .i64 0, .int .i64 0, .string ⟨#[]⟩, .bool false, .string ⟨#[]⟩, .bool false, .string ⟨#[]⟩, .int .i64 0, .slice none 0 0, .slice none 0 0, .slice none 0 0, .slice none 0 0, .slice none 0 0, .slice none 0 0, .int .i64 0] 41) = w1 at *
  have hlD := hD.lt
  have h1 := h.no hc
  have ho := of_none bc bm me tx l w1 h1 ht hno
  go_wp2_with (first | (go_at_call 20; refine ho.mono ?_; clear ho; rintro e w1' ⟨rfl, hw1⟩; subst w1') | (refine wpList_deal hD rfl _ _ rfl rfl (.slice none 0 0) (0) (0) (.slice none 0 0) (0) rfl IsSl.nil IsSl.nil ?_; intro w2 hD2 hc2 hs2) | fail)
  exact bodyPost_ret (ret_deal2 rfl rfl hD2 rfl) rfl ⟨_, rfl, DealIs.zero _ _, hc.fresh hc2 (Nat.le_refl _)⟩
theorem ask_state (bc bm : Nat) (me : Int) (l1 l2 : List Ep) (p : Ep) (w : World) (h : CAt w bc bm me (l1 ++ p :: l2)) (ht : I64 p.e.tx) (hp : p.e.phase ≠ 3) :
    Calls Try.prog 9 #[.pointer (some ⟨bc, 0, none⟩), .int .i64 p.e.tx] w fun e w' => ∃ v, e = .returned (.tuple #[v, .int .i64 161]) ∧ DealIs w' w.heap.size v noDeal ∧ Chg NoB w w' := by
  go_enter Try.func9, Try.ntmps9
  go_upto_region 1 with (fail)
  have hD := deal_new w
  have hc := deal_chg w
  generalize w.alloc (.cells #[.slice none 0 0, .int .i64 0, .int .i64 0, .int .i64 0, .int .i64 0, .string ⟨#[]⟩, .bool false, .string ⟨#[]⟩, .bool false, .string ⟨#[]⟩, .int .i64 0, .slice none 0 0, .slice none 0 0, .slice none 0 0, .slice none 0 0, .slice none 0 0, .slice none 0 0, .int .i64 0] 41) = w1 at *
  have hlD := hD.lt
  have h1 := h.no hc
  have ho := of_some bc bm me l1 l2 p w1 h1 ht
  have hE := (h1.own p (by simp)).hd
  have e1 := hE.cell 1 rfl
  have hlt := hE.lt
  have hz : (p.e.phase == 3) = false := by simpa using hp
  have hz2 : (p.e.phase != 3) = true := by simpa using hp
  go_wp2_with (first | (go_at_call 20; refine ho.mono ?_; clear ho; rintro e w1' ⟨rfl, hw1⟩; subst w1') | (refine wpList_deal hD rfl _ _ rfl rfl (.slice none 0 0) (0) (0) (.slice none 0 0) (0) rfl IsSl.nil IsSl.nil ?_; intro w2 hD2 hc2 hs2) | fail)
  exact bodyPost_ret (ret_deal2 rfl rfl hD2 rfl) rfl ⟨_, rfl, DealIs.zero _ _, hc.fresh hc2 (Nat.le_refl _)⟩
theorem CAt.apart {S : Nat → Prop} {w w' : World} {bc bm : Nat} {me : Int} {l : List Ep} (h : CAt w bc bm me l) (c : Chg S w w') (h1 : ¬ S bc) (h2 : ¬ S bm) (h3 : ∀ p ∈ l, ∀ k ∈ blocks p, ¬ S k) : CAt w' bc bm me l :=
  ⟨h.hd.chg c h1, h.mp.chg c h2, fun p hp => (h.own p hp).chg c (h3 p hp), h.sep⟩
theorem CAt.apart_at {w w' : World} {bc bm b : Nat} {me : Int} {l : List Ep} {cs : List Value} {T : TypeId} (h : CAt w bc bm me l) (ha : At w b cs T) (h1 : (56 : TypeId) ≠ T) (h2 : (3 : TypeId) ≠ T) (h3 : (61 : TypeId) ≠ T) (c : Chg (· = b) w w') : CAt w' bc bm me l := by
  refine h.apart c (fun e => ?_) (fun e => ?_) (fun p hp k hk e => ?_)
  · have h4 := h.hd
    unfold At at h4 ha
    rw [e, ha] at h4
    simp at h4
    exact h1 h4.2.symm
  · exact h.mp.ne_at ha e
  · subst e
    exact (h.own p hp).ne_at ha h2 h3 hk
/-- The map of entries, one dropped. -/
theorem CAt.dropped {w w' : World} {bc bm : Nat} {me : Int} {l1 l2 : List Ep} {p : Ep} (h : CAt w bc bm me (l1 ++ p :: l2)) (hm : EMap w' bm (mdel (prs (l1 ++ p :: l2)) p.e.tx)) (g : w.grownBy w' (some bm)) : CAt w' bc bm me (l1 ++ l2) ∧ Chg (· = bm) w w' := by
  have hc : Chg (· = bm) w w' := (Chg.refl (· = bm) w).grown g (by simp)
  exact ⟨h.del hm hc, hc⟩
set_option maxHeartbeats 1000000 in
theorem ask_empty (bc bm : Nat) (me : Int) (l1 l2 : List Ep) (p : Ep) (w : World) (h : CAt w bc bm me (l1 ++ p :: l2)) (ht : I64 p.e.tx) (hp : p.e.phase = 3) (hm : p.e.mem = []) :
    Calls Try.prog 9 #[.pointer (some ⟨bc, 0, none⟩), .int .i64 p.e.tx] w fun e w' => ∃ v, e = .returned (.tuple #[v, .int .i64 0]) ∧ DealIs w' w.heap.size v ⟨[], 0, 0, [], 1⟩ ∧ CAt w' bc bm me (l1 ++ l2) ∧ Chg (· = bm) w w' := by
  go_enter Try.func9, Try.ntmps9
  go_upto_region 1 with (fail)
  have hD := deal_new w
  have hc := deal_chg w
  generalize w.alloc (.cells #[.slice none 0 0, .int .i64 0, .int .i64 0, .int .i64 0, .int .i64 0, .string ⟨#[]⟩, .bool false, .string ⟨#[]⟩, .bool false, .string ⟨#[]⟩, .int .i64 0, .slice none 0 0, .slice none 0 0, .slice none 0 0, .slice none 0 0, .slice none 0 0, .slice none 0 0, .int .i64 0] 41) = w1 at *
  have hlD := hD.lt
  have h1 := h.no hc
  have ho := of_some bc bm me l1 l2 p w1 h1 ht
  have hEH := h1.own p (by simp)
  have hE := hEH.hd
  have e1 := hE.cell 1 rfl
  have e2 := hE.cell 2 rfl
  obtain ⟨ao, cap, hmv, _⟩ := hEH.m.shape
  rw [hp] at e1
  rw [hmv, hm] at e2
  have c1 := h1.hd.cell 1 rfl
  have hltc := h1.hd.lt
  have hlt := hE.lt
  go_wp2_with (first | (go_at_call 20; refine ho.mono ?_; clear ho; rintro e w1' ⟨rfl, hw1⟩; subst w1') | (at_delete; refine wpList_drop h1.mp law3 encN_inj Try.underlying54 rfl _ _ rfl rfl p.e.tx rfl (key_lit ht) ?_; intro w2 hm2 hg2; obtain ⟨h2, hc2⟩ := h1.dropped hm2 hg2; have hD' := hD.chg hc2 (fun e => h1.mp.ne_at hD e.symm)) | (refine wpList_deal hD' rfl _ _ rfl rfl (.slice none 0 0) 0 0 (.slice none 0 0) 1 rfl IsSl.nil IsSl.nil ?_; intro w3 hD3 hc3 hs3) | fail)
  have hbc := h.hd.lt
  refine bodyPost_ret (ret_deal2 rfl rfl hD3 rfl) rfl ⟨_, rfl, DealIs.res _ _ _, ?_, ?_⟩
  · exact h2.apart_at hD' (by decide) (by decide) (by decide) hc3
  · exact ((hc.mono (T := (· = bm)) (by simp [NoB])).trans hc2 (fun _ _ h => h)).trans hc3 (fun j h1 h2 => by omega)
theorem pw_le {l : List Int} (h : l.Pairwise (· < ·)) : l.Pairwise (· ≤ ·) := h.imp (fun h => Int.le_of_lt h)
theorem pw_nd {l : List Int} (h : l.Pairwise (· < ·)) : l.Nodup := h.imp (fun h => by omega)
def revE (p : Ep) (ph : Int) (aw : List Int) (b2 : Nat) : Ep := ⟨{ p.e with phase := ph, aw := aw }, p.b, p.mv, some b2, p.yv⟩
/-- An entry that votes, or decides, anew. -/
theorem CAt.revote {w w2 : World} {bc bm : Nat} {me : Int} {l1 l2 : List Ep} {p : Ep} (h : CAt w bc bm me (l1 ++ p :: l2)) (hc : Chg NoB w w2) (ph : Int) (aw : List Int) (b2 : Nat) (hs : SMap w2 b2 (setP aw)) (hb : w.heap.size ≤ b2) :
    CAt ((w2.setCell ⟨p.b, 1, none⟩ (.int .i64 ph)).setCell ⟨p.b, 3, none⟩ (.map (some b2))) bc bm me (l1 ++ revE p ph aw b2 :: l2) ∧ Chg (· = p.b) w2 ((w2.setCell ⟨p.b, 1, none⟩ (.int .i64 ph)).setCell ⟨p.b, 3, none⟩ (.map (some b2))) ∧ Chg (· ∈ blocks p) w ((w2.setCell ⟨p.b, 1, none⟩ (.int .i64 ph)).setCell ⟨p.b, 3, none⟩ (.map (some b2))) ∧ (∀ k ∈ blocks (revE p ph aw b2), k ∈ blocks p ∨ w.heap.size ≤ k) := by
  have hEH := h.own p (by simp)
  have hE2 := hEH.chg hc (by simp [NoB])
  have c1 : Chg (· = p.b) w2 (w2.setCell ⟨p.b, 1, none⟩ (.int .i64 ph)) := (Chg.refl (· = p.b) w2).setCell (p := ⟨p.b, 1, none⟩) (fun _ => rfl) _
  have hE3 : EHas (w2.setCell ⟨p.b, 1, none⟩ (.int .i64 ph)) ⟨{ p.e with phase := ph }, p.b, p.mv, p.ao, p.yv⟩ := EHas.put hE2.hd 1 _ rfl rfl hE2.m hE2.y hE2.a
  have hs3 : SMap (w2.setCell ⟨p.b, 1, none⟩ (.int .i64 ph)) b2 (setP aw) := hs.chg c1 (fun e => hs.ne_at hE2.hd e)
  have c2 : Chg (· = p.b) w2 ((w2.setCell ⟨p.b, 1, none⟩ (.int .i64 ph)).setCell ⟨p.b, 3, none⟩ (.map (some b2))) := c1.setCell (p := ⟨p.b, 3, none⟩) (fun _ => rfl) _
  have hE4 : EHas ((w2.setCell ⟨p.b, 1, none⟩ (.int .i64 ph)).setCell ⟨p.b, 3, none⟩ (.map (some b2))) (revE p ph aw b2) := EHas.put hE3.hd 3 _ rfl rfl hE3.m hE3.y hs3
  have hcw : Chg (· ∈ blocks p) w ((w2.setCell ⟨p.b, 1, none⟩ (.int .i64 ph)).setCell ⟨p.b, 3, none⟩ (.map (some b2))) := (hc.mono (T := (· ∈ blocks p)) (by simp [NoB])).trans c2 (fun j _ hj => by rw [hj]; exact mem_blocks.2 (.inl rfl))
  have hbl : ∀ k ∈ blocks (revE p ph aw b2), k ∈ blocks p ∨ w.heap.size ≤ k := by
    intro k hk
    rcases mem_blocks.1 hk with hk | hk | hk | hk
    · exact .inl (mem_blocks.2 (.inl hk))
    · exact .inl (mem_blocks.2 (.inr (.inl hk)))
    · exact .inl (mem_blocks.2 (.inr (.inr (.inl hk))))
    · cases hk; exact .inr hb
  exact ⟨h.step hcw hE4 rfl rfl hbl (hE4.nd (fun g hg => my_of_nd h.nd g hg)), c2, hcw, hbl⟩
set_option maxHeartbeats 2000000 in
theorem ask_ok (bc bm : Nat) (me : Int) (l1 l2 : List Ep) (p : Ep) (w : World) (h : CAt w bc bm me (l1 ++ p :: l2)) (ht : I64 p.e.tx) (hp : p.e.phase = 3) (hm : p.e.mem ≠ []) (hpw : p.e.mem.Pairwise (· < ·)) (hmi : ∀ n ∈ p.e.mem, 0 ≤ n ∧ n < 8) (hml : p.e.mem.length ≤ 1099511627776) :
    Calls Try.prog 9 #[.pointer (some ⟨bc, 0, none⟩), .int .i64 p.e.tx] w fun e w' => ∃ v, e = .returned (.tuple #[v, .int .i64 0]) ∧ DealIs w' w.heap.size v ⟨toM 1 me p.e.tx p.e.mem p.e.mem, 0, 0, [], 0⟩ ∧ ∃ p', p'.e = { p.e with phase := 4, aw := p.e.mem } ∧ p'.ao ≠ none ∧ CAt w' bc bm me (l1 ++ p' :: l2) ∧ Chg (· ∈ blocks p) w w' ∧ (∀ k ∈ blocks p', k ∈ blocks p ∨ w.heap.size ≤ k) := by
  go_enter Try.func9, Try.ntmps9
  go_upto_region 1 with (fail)
  have hD := deal_new w
  have hc := deal_chg w
  generalize w.alloc (.cells #[.slice none 0 0, .int .i64 0, .int .i64 0, .int .i64 0, .int .i64 0, .string ⟨#[]⟩, .bool false, .string ⟨#[]⟩, .bool false, .string ⟨#[]⟩, .int .i64 0, .slice none 0 0, .slice none 0 0, .slice none 0 0, .slice none 0 0, .slice none 0 0, .slice none 0 0, .int .i64 0] 41) = w1 at *
  have hlD := hD.lt
  have h1 := h.no hc
  have ho := of_some bc bm me l1 l2 p w1 h1 ht
  have hEH := h1.own p (by simp)
  have hE := hEH.hd
  have e1 := hE.cell 1 rfl
  have e2 := hE.cell 2 rfl
  obtain ⟨ao, cap, hmv, _⟩ := hEH.m.shape
  rw [hp] at e1
  rw [hmv] at e2
  have hlt := hE.lt
  have hlen : ((p.e.mem.length : Int) == 0) = false := by
    have : p.e.mem.length ≠ 0 := fun e => hm (List.eq_nil_of_length_eq_zero e)
    simp
    omega
  have hall := all_set p.mv p.e.mem w1 (Sees.of_row hEH.m) (pw_nd hpw) (mem_i64 hmi) hml
  rw [hmv] at hall
  go_upto_region 10 with (first | (go_at_call 20; refine ho.mono ?_; clear ho; rintro e w1' ⟨rfl, hw1⟩; subst w1') | (go_at_call 23; refine hall.mono ?_; clear hall; rintro e w2 ⟨rfl, hs2, hc2⟩; have hE2 := hE.chg hc2 (by simp [NoB]); clear e1 e2; have e1 := hE2.cell 1 rfl; have f1 := hE2.frozen 1; have hlt2 := hE2.lt; have hE3 := hE2.setCell 1 (.int .i64 4); have e3 := hE3.cell 3 (v := .map p.ao) rfl; have f3 := hE3.frozen 3; have hlt3 := hE3.lt) | fail)
  obtain ⟨h4, hcp4, hcw4, hbl4⟩ := h1.revote hc2 4 p.e.mem w1.heap.size hs2 (Nat.le_refl _)
  have hc24 := hcp4
  generalize (w2.setCell ⟨p.b, 1, none⟩ (.int .i64 4)).setCell ⟨p.b, 3, none⟩ (.map (some w1.heap.size)) = w4 at *
  have hEr := h4.own (revE p 4 p.e.mem w1.heap.size) (by simp)
  have e2 : w4.cell? ⟨p.b, 2, none⟩ = some p.mv := hEr.hd.cell 2 rfl
  rw [hmv] at e2
  have hlt4 : p.b < w4.heap.size := hEr.hd.lt
  have hto := to_any bc (.map (some bm)) me 1 (revE p 4 p.e.mem w1.heap.size) p.mv p.e.mem w4 h4.hd hEr.hd (Sees.of_row hEr.m) (Sees.of_row hEr.m) hml hml
  rw [hmv] at hto
  have hneD : p.b ≠ w.heap.size := by have := (h.own p (by simp)).hd.lt; omega
  have hD4 := (hD.chg hc2 (by simp [NoB])).chg hcp4 (fun e => hneD e.symm)
  clear e1 f1 e3 f3 hlt3 hlt2 hE3 hE2
  go_wp2_with (first | (go_at_call 24; refine hto.mono ?_; clear hto; rintro e w5 ⟨v5, rfl, hM5, hc5⟩; obtain ⟨a5, n5, k5, rfl⟩ := hM5.isSl; have hD5 := hD4.chg hc5 (by simp [NoB])) | (refine wpList_deal hD5 rfl _ _ rfl rfl (.slice a5 n5 k5) 0 0 (.slice none 0 0) 0 rfl ⟨_, _, _, rfl⟩ IsSl.nil ?_; intro w6 hD6 hc6 hs6) | fail)
  have hs5 := hc5.size
  have hs4 := hcw4.size
  have hbw : ∀ k ∈ blocks p, k < w.heap.size := (h.own p (by simp)).lt
  have hw1 := hc.size
  refine bodyPost_ret (ret_deal2 rfl rfl hD6 rfl) rfl ⟨_, rfl, ⟨.slice a5 n5 k5, .slice none 0 0, rfl, ?_, RowOf.nil _ _⟩, revE p 4 p.e.mem w1.heap.size, rfl, (fun h => by cases h), ?_, ?_, ?_⟩
  · exact (hM5.chg hc6 (fun k hk e => by omega)).mono (by omega)
  · exact (h4.no hc5).apart_at hD5 (by decide) (by decide) (by decide) hc6
  · exact (((hc.mono (T := (· ∈ blocks p)) (by simp [NoB])).trans hcw4 (fun _ _ h => h)).trans hc5 (by simp [NoB])).trans hc6 (fun j h1 h2 => by omega)
  · intro k hk
    rcases hbl4 k hk with h | h
    · exact .inl h
    · exact .inr (by omega)
end Go.Proofs.Ythpnhndligblaaa
