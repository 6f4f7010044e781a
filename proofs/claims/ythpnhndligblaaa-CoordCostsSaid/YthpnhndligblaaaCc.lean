/- The coordinator: an entry's open nodes; Enlist; Members. Conditions: numbers within int. -/
import Derived.Test.YthpnhndligblaaaCb
namespace Go.Proofs.Ythpnhndligblaaa
open Go.RowKit Go.Maps Go.BigFrame
theorem open_any (p : Ep) (ba : Nat) (w : World) (hE : At w p.b (cellsE p) 61) (hao : p.ao = some ba) (hm : SMap w ba (setP p.e.aw)) (hl : p.e.aw.length ≤ 1099511627776) :
    Calls Try.prog 28 #[.pointer (some ⟨p.b, 0, none⟩)] w fun e w' => ∃ v, e = .returned v ∧ IRow w' w.heap.size v (sortI p.e.aw) ∧ Chg NoB w w' := by
  have e3 := hE.cell 3 rfl
  rw [hao] at e3
  have hlt := hE.lt
  have hk := keysB_any ba w
  have hs := sortedB_any ba (setP p.e.aw) w hm (by simpa [setP] using hl)
  rw [setP_keys] at hs
  go_enter Try.func28, Try.ntmps28
  go_wp2_with (first | (go_at_call 40; refine hk.mono ?_; clear hk; rintro e w1 ⟨rfl, rfl⟩) | (go_at_call 29; refine hs.mono ?_; clear hs; rintro e w2 ⟨v, rfl, hr, hc⟩) | fail)
  go_ret
  exact ⟨_, rfl, hr, hc⟩
theorem EHas.nd {w : World} {p : Ep} (h : EHas w p) (hmy : ∀ g, p.mv.ownBlock = some g → p.yv.ownBlock ≠ some g) : (blocks p).Nodup := by
  have h1 : p.b ∉ ownL p.mv := fun hk => h.m.apart_at h.hd (by decide) (mem_ownL.1 hk)
  have h2 : p.b ∉ ownL p.yv := fun hk => h.y.apart_at h.hd (by decide) (mem_ownL.1 hk)
  have h3 : p.b ∉ p.ao.toList := fun hk => by
    rw [Option.mem_toList] at hk
    have := h.a
    rw [hk] at this
    exact MapIs.ne_at this h.hd rfl
  have h4 : ∀ g, p.mv.ownBlock = some g → p.ao ≠ some g := fun g hg e => by
    have := h.a
    rw [e] at this
    exact h.m.apart_map this hg
  have h5 : ∀ g, p.yv.ownBlock = some g → p.ao ≠ some g := fun g hg e => by
    have := h.a
    rw [e] at this
    exact h.y.apart_map this hg
  unfold blocks
  rw [List.nodup_cons, List.nodup_append, List.nodup_append]
  refine ⟨?_, ?_, ⟨?_, ?_, ?_⟩, ?_⟩
  · simp only [List.mem_append, not_or]
    exact ⟨h1, h2, h3⟩
  · unfold ownL; cases p.mv.ownBlock <;> simp
  · unfold ownL; cases p.yv.ownBlock <;> simp
  · cases p.ao <;> simp
  · intro a ha b hb e
    subst e
    rw [mem_ownL] at ha
    rw [Option.mem_toList] at hb
    exact h5 a ha hb
  · intro a ha b hb e
    subst e
    rw [mem_ownL] at ha
    rcases List.mem_append.1 hb with hb | hb
    · rw [mem_ownL] at hb
      exact hmy a ha hb
    · rw [Option.mem_toList] at hb
      exact h4 a ha hb
theorem my_of_nd {p : Ep} (h : (blocks p).Nodup) : ∀ g, p.mv.ownBlock = some g → p.yv.ownBlock ≠ some g := by
  intro g hg hy
  unfold blocks at h
  rw [List.nodup_cons, List.nodup_append] at h
  exact h.2.2.2 g (mem_ownL.2 hg) g (List.mem_append_left _ (mem_ownL.2 hy)) rfl
theorem CAt.nd {w : World} {bc bm : Nat} {me : Int} {l1 l2 : List Ep} {p : Ep} (h : CAt w bc bm me (l1 ++ p :: l2)) : (blocks p).Nodup := by
  have h1 := (List.nodup_cons.1 h.sep).2
  rw [List.flatMap_append, List.flatMap_cons] at h1
  exact (List.nodup_append.1 (List.nodup_append.1 h1).2.1).1
/-- A cell of an entry written. -/
theorem EHas.put {w : World} {p p' : Ep} (h : At w p.b (cellsE p) 61) (i : Nat) (u : Value) (hb : p'.b = p.b) (hc : (cellsE p).set i u = cellsE p') (m : IRow w 0 p'.mv p'.e.mem) (y : IRow w 0 p'.yv p'.e.yes) (a : AwIs w p'.ao p'.e.aw) : EHas (w.setCell ⟨p.b, i, none⟩ u) p' := by
  have hcs : Chg (· = p.b) w (w.setCell ⟨p.b, i, none⟩ u) := (Chg.refl (· = p.b) w).setCell (p := ⟨p.b, i, none⟩) (fun _ => rfl) _
  refine ⟨?_, m.chg hcs (fun g hg e => ?_), y.chg hcs (fun g hg e => ?_), a.chg hcs (fun g hg e => ?_)⟩
  · rw [hb, ← hc]
    exact h.setCell i u
  · subst e
    exact m.apart_at h (by decide) hg
  · subst e
    exact y.apart_at h (by decide) hg
  · subst e
    rw [hg] at a
    exact MapIs.ne_at a h rfl
theorem mem_i64 {l : List Int} (h : ∀ n ∈ l, 0 ≤ n ∧ n < 8) : ∀ n ∈ l, I64 n := fun n hn => by have := h n hn; unfold I64; omega
theorem enlist_nil (tx node : Int) (w : World) : Calls Try.prog 8 #[.pointer none, .int .i64 tx, .int .i64 node] w fun e w' => e = .returned (.int .i64 2) ∧ w' = w := by
  have ho := of_nil tx w
  go_enter Try.func8, Try.ntmps8
  go_wp2_with (first | (go_at_call 20; refine ho.mono ?_; clear ho; rintro e w1 ⟨rfl, rfl⟩) | fail)
  go_ret
  exact ⟨rfl, rfl⟩
theorem enlist_none (bc bm : Nat) (me tx node : Int) (l : List Ep) (w : World) (h : CAt w bc bm me l) (ht : I64 tx) (hno : tx ∉ l.map (·.e.tx)) :
    Calls Try.prog 8 #[.pointer (some ⟨bc, 0, none⟩), .int .i64 tx, .int .i64 node] w fun e w' => e = .returned (.int .i64 160) ∧ w' = w := by
  have ho := of_none bc bm me tx l w h ht hno
  go_enter Try.func8, Try.ntmps8
  go_wp2_with (first | (go_at_call 20; refine ho.mono ?_; clear ho; rintro e w1 ⟨rfl, rfl⟩) | fail)
  go_ret
  exact ⟨rfl, rfl⟩
theorem enlist_arg (bc bm : Nat) (me node : Int) (l1 l2 : List Ep) (p : Ep) (w : World) (h : CAt w bc bm me (l1 ++ p :: l2)) (ht : I64 p.e.tx) (hn : node < 0 ∨ 8 ≤ node) :
    Calls Try.prog 8 #[.pointer (some ⟨bc, 0, none⟩), .int .i64 p.e.tx, .int .i64 node] w fun e w' => e = .returned (.int .i64 1) ∧ w' = w := by
  have ho := of_some bc bm me l1 l2 p w h ht
  go_enter Try.func8, Try.ntmps8
  go_wp2_with (first | (go_at_call 20; refine ho.mono ?_; clear ho; rintro e w1 ⟨rfl, rfl⟩) | fail)
  all_goals first | (exfalso; omega) | (go_ret; exact ⟨rfl, rfl⟩)
theorem enlist_state (bc bm : Nat) (me node : Int) (l1 l2 : List Ep) (p : Ep) (w : World) (h : CAt w bc bm me (l1 ++ p :: l2)) (ht : I64 p.e.tx) (hn : 0 ≤ node) (hn2 : node < 8) (hp : p.e.phase ≠ 3) :
    Calls Try.prog 8 #[.pointer (some ⟨bc, 0, none⟩), .int .i64 p.e.tx, .int .i64 node] w fun e w' => e = .returned (.int .i64 161) ∧ w' = w := by
  have ho := of_some bc bm me l1 l2 p w h ht
  have hE := (h.own p (by simp)).hd
  have e1 := hE.cell 1 rfl
  have hlt := hE.lt
  have hz : (p.e.phase == 3) = false := by simpa using hp
  have hz2 : (p.e.phase != 3) = true := by simpa using hp
  go_enter Try.func8, Try.ntmps8
  go_wp2_with (first | (go_at_call 20; refine ho.mono ?_; clear ho; rintro e w1 ⟨rfl, rfl⟩) | fail)
  go_ret
  exact ⟨rfl, rfl⟩
/-- A node put among others. -/
def addI (l : List Int) (x : Int) : List Int := if l.contains x then l else insI l (l.countP (· < x)) x
set_option maxHeartbeats 2000000 in
theorem enlist_ok (bc bm : Nat) (me node : Int) (l1 l2 : List Ep) (p : Ep) (w : World) (h : CAt w bc bm me (l1 ++ p :: l2)) (ht : I64 p.e.tx) (hn : 0 ≤ node) (hn2 : node < 8) (hp : p.e.phase = 3) (hs : p.e.mem.Pairwise (· ≤ ·)) (hml : p.e.mem.length ≤ 1099511627776) :
    Calls Try.prog 8 #[.pointer (some ⟨bc, 0, none⟩), .int .i64 p.e.tx, .int .i64 node] w fun e w' => e = .returned (.int .i64 0) ∧ ∃ p', p'.e = { p.e with mem := addI p.e.mem node } ∧ p'.ao = p.ao ∧ CAt w' bc bm me (l1 ++ p' :: l2) ∧ Chg (· ∈ blocks p) w w' ∧ (∀ k ∈ blocks p', k ∈ blocks p ∨ w.heap.size ≤ k) := by
  have ho := of_some bc bm me l1 l2 p w h ht
  have hEH := h.own p (by simp)
  have hE := hEH.hd
  have e1 := hE.cell 1 rfl
  have e2 := hE.cell 2 rfl
  rw [hp] at e1
  have hlt := hE.lt
  obtain ⟨ao, cap, hmv, _⟩ := hEH.m.shape
  have hbs := bsearch_any 0 p.mv p.e.mem node w hEH.m hml hs
  rw [hmv] at e2 hbs
  cases hcon : p.e.mem.contains node with
  | true =>
    rw [hcon] at hbs
    go_enter Try.func8, Try.ntmps8
    go_wp2_with (first | (go_at_call 20; refine ho.mono ?_; clear ho; rintro e w1 ⟨rfl, hw1⟩; subst w1) | (go_at_call 21; refine hbs.mono ?_; clear hbs; rintro e w2 ⟨rfl, hc2⟩) | fail)
    go_ret
    refine ⟨rfl, p, ?_, rfl, h.no hc2, hc2.mono (by simp [NoB]), fun k hk => .inl hk⟩
    unfold addI
    rw [hcon]
    rfl
  | false =>
    rw [hcon] at hbs
    have hcle : p.e.mem.countP (· < node) ≤ p.e.mem.length := List.countP_le_length
    have hnd := h.nd
    have hmy := my_of_nd hnd
    have hins := fun W (hW : Chg NoB w W) => insert_any 0 W.heap.size (.slice ao p.e.mem.length cap) p.e.mem (p.e.mem.countP (· < node)) node (W.alloc (.cells #[.int .i64 node] 3)) (by rw [← hmv]; exact (hEH.m.chg hW (by simp [NoB])).alloc _) hml hcle (At.new W [.int .i64 node] 3) (fun e => by rw [← hmv] at e; have := ((hEH.m.chg hW (by simp [NoB])).ge _ e).2; omega) (Nat.zero_le _)
    have hE2 := fun W (hW : Chg NoB w W) => hE.chg hW (by simp [NoB])
    generalize hC : p.e.mem.countP (· < node) = C at *
    go_enter Try.func8, Try.ntmps8
    go_wp2_with (first | (go_at_call 20; refine ho.mono ?_; clear ho; rintro e w1 ⟨rfl, hw1⟩; subst w1) | (go_at_call 21; refine hbs.mono ?_; clear hbs; rintro e w2 ⟨rfl, hc2⟩; have hE3 := hE2 w2 hc2; clear e1 e2 hE2; have e1 := hE3.cell 1 rfl; have e2 := hE3.cell 2 rfl; rw [hmv] at e2; have hlt3 := hE3.lt; have hins' := hins w2 hc2; clear hins) | (go_at_call 22; refine hins'.mono ?_; clear hins'; rintro e w3 ⟨v', rfl, hr3, hc3, hb3⟩; have hEa := hE3.alloc (.cells #[.int .i64 node] 3); have hE4 := hEa.chg hc3 (fun e => by rw [← hmv] at e; exact hEH.m.apart_at hE (by decide) e); clear e1 e2; have e2 := hE4.cell 2 rfl; rw [hmv] at e2; have f2 := hE4.frozen 2; have hlt4 := hE4.lt; obtain ⟨ao', n', cap', rfl⟩ := hr3.slice) | fail)
    go_ret
    have hca : Chg NoB w (w2.alloc (.cells #[.int .i64 node] 3)) := hc2.alloc _
    have hcm : Chg (fun b => p.mv.ownBlock = some b) w w3 := by
      rw [hmv]
      exact (hca.mono (T := fun b => (Value.slice ao p.e.mem.length cap).ownBlock = some b) (by simp [NoB])).trans hc3 (fun j _ hj => hj)
    have hfin : EHas (w3.setCell ⟨p.b, 2, none⟩ (.slice ao' n' cap')) ⟨{ p.e with mem := addI p.e.mem node }, p.b, .slice ao' n' cap', p.ao, p.yv⟩ := by
      refine EHas.put hE4 2 _ rfl rfl ?_ ?_ ?_
      · show IRow w3 0 (.slice ao' n' cap') (addI p.e.mem node)
        unfold addI
        rw [hcon, hC]
        exact hr3
      · exact hEH.y.chg hcm (fun g hg e => hmy g e hg)
      · refine hEH.a.chg hcm (fun g hg e => ?_)
        have := hEH.a
        rw [hg] at this
        exact hEH.m.apart_map this e
    have hsz := hca.size
    have hnew : ∀ g, (Value.slice ao' n' cap').ownBlock = some g → p.mv.ownBlock = some g ∨ w.heap.size ≤ g := fun g hg => by
      rcases hb3 g hg with h1 | h1
      · exact .inl (by rw [hmv]; exact h1)
      · exact .inr (by omega)
    have hcf : Chg (· ∈ blocks p) w (w3.setCell ⟨p.b, 2, none⟩ (.slice ao' n' cap')) := (hcm.mono (T := (· ∈ blocks p)) (fun k _ hk => mem_blocks.2 (.inr (.inl hk)))).setCell (p := ⟨p.b, 2, none⟩) (fun _ => mem_blocks.2 (.inl rfl)) _
    have hbl : ∀ k ∈ blocks (⟨{ p.e with mem := addI p.e.mem node }, p.b, .slice ao' n' cap', p.ao, p.yv⟩ : Ep), k ∈ blocks p ∨ w.heap.size ≤ k := by
      intro k hk
      rcases mem_blocks.1 hk with rfl | hk | hk | hk
      · exact .inl (mem_blocks.2 (.inl rfl))
      · rcases hnew k hk with h1 | h1
        · exact .inl (mem_blocks.2 (.inr (.inl h1)))
        · exact .inr h1
      · exact .inl (mem_blocks.2 (.inr (.inr (.inl hk))))
      · exact .inl (mem_blocks.2 (.inr (.inr (.inr hk))))
    refine ⟨rfl, (⟨{ p.e with mem := addI p.e.mem node }, p.b, .slice ao' n' cap', p.ao, p.yv⟩ : Ep), rfl, rfl, h.step hcf hfin rfl rfl hbl (hfin.nd ?_), hcf, hbl⟩
    intro g hg hy
    rcases hnew g hg with h1 | h1
    · exact hmy g h1 hy
    · have := (hEH.y.ge g hy).2
      omega
end Go.Proofs.Ythpnhndligblaaa
