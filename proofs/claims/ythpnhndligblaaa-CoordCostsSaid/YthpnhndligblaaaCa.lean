/- The coordinator: New, Open, Phase, Members. Conditions: numbers within int. -/
import Derived.Test.YthpnhndligblaaaOf
namespace Go.Proofs.Ythpnhndligblaaa
open Go.RowKit Go.Maps Go.BigFrame
theorem new_any (me : Int) (w : World) (h1 : 0 ≤ me) (h2 : me < 8) : Calls Try.prog 6 #[.int .i64 me] w fun e w' => e = .returned (.tuple #[.pointer (some ⟨w.heap.size + 1, 0, none⟩), .int .i64 0]) ∧ CAt w' (w.heap.size + 1) w.heap.size me [] ∧ Chg NoB w w' := by
  have hmm := @run_makeMap Try.prog
  go_enter Try.func6, Try.ntmps6
  go_wp2
  refine bodyPost_ret (v := .tuple #[.pointer (some ⟨w.heap.size + 1, 0, none⟩), .int .i64 0]) (by simp [results, Try.results6, go_sem]) rfl ⟨rfl, ⟨?_, (MapIs.made w).alloc _, by simp, by simp⟩, ((Chg.refl _ w).alloc _).alloc _⟩
  have := At.new (w.alloc (.map #[] 0)) [.int .i64 me, .map (some w.heap.size)] 56
  simpa using this
theorem new_bad (me : Int) (w : World) (h : me < 0 ∨ 8 ≤ me) : Calls Try.prog 6 #[.int .i64 me] w fun e w' => e = .returned (.tuple #[.pointer none, .int .i64 1]) ∧ w' = w := by
  go_enter Try.func6, Try.ntmps6
  go_wp2
  all_goals first | (exfalso; omega) | exact bodyPost_ret (v := .tuple #[.pointer none, .int .i64 1]) (by simp [results, Try.results6, go_sem]) rfl ⟨rfl, rfl⟩
theorem open_nil (tx : Int) (w : World) : Calls Try.prog 7 #[.pointer none, .int .i64 tx] w fun e w' => e = .returned (.int .i64 2) ∧ w' = w := by
  go_enter Try.func7, Try.ntmps7
  go_wp2
  go_ret
  exact ⟨rfl, rfl⟩
theorem open_bad (bc bm : Nat) (me tx : Int) (l : List Ep) (w : World) (h : CAt w bc bm me l) (hb : mineB me tx = false) :
    Calls Try.prog 7 #[.pointer (some ⟨bc, 0, none⟩), .int .i64 tx] w fun e w' => e = .returned (.int .i64 1) ∧ Chg NoB w w' := by
  have hm := mine_any bc _ me tx w h.hd
  rw [hb] at hm
  go_enter Try.func7, Try.ntmps7
  go_wp2_with (first | (go_at_call 19; refine hm.mono ?_; clear hm; rintro e w1 ⟨rfl, hc1⟩) | fail)
  go_ret
  exact ⟨rfl, hc1⟩
theorem mineB_i64 {me tx : Int} (h : mineB me tx = true) : I64 tx := by
  simp only [mineB, Bool.and_eq_true, decide_eq_true_eq] at h
  unfold I64
  omega
theorem open_tx (bc bm : Nat) (me : Int) (l1 l2 : List Ep) (p : Ep) (w : World) (h : CAt w bc bm me (l1 ++ p :: l2)) (hb : mineB me p.e.tx = true) :
    Calls Try.prog 7 #[.pointer (some ⟨bc, 0, none⟩), .int .i64 p.e.tx] w fun e w' => e = .returned (.int .i64 160) ∧ Chg NoB w w' := by
  have hm := mine_any bc _ me p.e.tx w h.hd
  rw [hb] at hm
  have ht := mineB_i64 hb
  go_enter Try.func7, Try.ntmps7
  go_wp2_with (first | (go_at_call 19; refine hm.mono ?_; clear hm; rintro e w1 ⟨rfl, hc1⟩; have h1 := h.no hc1; have hL := h1.looked ht w1 rfl; rw [h1.prs_some] at hL; unfold ptr encP at hL; have c1 := h1.hd.cell 1 rfl; have hlt := h1.hd.lt) | fail)
  go_ret
  exact ⟨rfl, hc1⟩
theorem open_full (bc bm : Nat) (me tx : Int) (l : List Ep) (w : World) (h : CAt w bc bm me l) (hb : mineB me tx = true) (hno : tx ∉ l.map (·.e.tx)) (hf : 64 ≤ l.length) :
    Calls Try.prog 7 #[.pointer (some ⟨bc, 0, none⟩), .int .i64 tx] w fun e w' => e = .returned (.int .i64 162) ∧ Chg NoB w w' := by
  have hm := mine_any bc _ me tx w h.hd
  rw [hb] at hm
  have ht := mineB_i64 hb
  have hd : decide ((64 : Int) ≤ (l.length : Int)) = true := by simp; omega
  go_enter Try.func7, Try.ntmps7
  go_wp2_with (first | (go_at_call 19; refine hm.mono ?_; clear hm; rintro e w1 ⟨rfl, hc1⟩; have h1 := h.no hc1; have hL := h1.looked ht w1 rfl; rw [prs_none hno] at hL; unfold ptr at hL; have c1 := h1.hd.cell 1 rfl; have hlt := h1.hd.lt; have hlen := h1.mp.len (ty := 3) Try.underlying54; rw [List.length_map] at hlen) | fail)
  go_ret
  exact ⟨rfl, hc1⟩
def newE (tx : Int) : En := ⟨tx, 3, [], [], [], false⟩
set_option maxHeartbeats 1000000 in
theorem open_ok (bc bm : Nat) (me tx : Int) (l : List Ep) (w : World) (h : CAt w bc bm me l) (hb : mineB me tx = true) (hno : tx ∉ l.map (·.e.tx)) (hf : l.length < 64) :
    Calls Try.prog 7 #[.pointer (some ⟨bc, 0, none⟩), .int .i64 tx] w fun e w' => e = .returned (.int .i64 0) ∧ ∃ p, p.e = newE tx ∧ CAt w' bc bm me (l ++ [p]) ∧ Chg (· = bm) w w' ∧ (∀ k ∈ blocks p, w.heap.size ≤ k) := by
  have hm := mine_any bc _ me tx w h.hd
  rw [hb] at hm
  have ht := mineB_i64 hb
  have hd : decide ((64 : Int) ≤ (l.length : Int)) = false := by simp; omega
  go_enter Try.func7, Try.ntmps7
  go_wp2_with (first | (go_at_call 19; refine hm.mono ?_; clear hm; rintro e w1 ⟨rfl, hc1⟩; have h1 := h.no hc1; have hL := h1.looked ht w1 rfl; rw [prs_none hno] at hL; unfold ptr at hL; have c1 := h1.hd.cell 1 rfl; have hlt := h1.hd.lt; have hlen := h1.mp.len (ty := 3) Try.underlying54; rw [List.length_map] at hlen) | (at_mapUpdate; refine stop ?_) | fail)
  unfold Stop
  have h2 := h1.no ((Chg.refl NoB w1).alloc (.cells #[.int .i64 tx, .int .i64 3, .slice none 0 0, .map none, .slice none 0 0, .bool false] 61))
  have hE : EHas (w1.alloc (.cells #[.int .i64 tx, .int .i64 3, .slice none 0 0, .map none, .slice none 0 0, .bool false] 61)) ⟨newE tx, w1.heap.size, .slice none 0 0, none, .slice none 0 0⟩ :=
    ⟨At.new w1 [.int .i64 tx, .int .i64 3, .slice none 0 0, .map none, .slice none 0 0, .bool false] 61, RowOf.nil _ _, RowOf.nil _ _, rfl⟩
  refine wpList_store h2.mp law3 encN_inj Try.underlying54 rfl _ _ _ rfl rfl tx rfl w1.heap.size rfl (key_lit ht) ?_
  intro w3 hm3 hg3
  have hlt1 : ∀ k ∈ bm :: l.flatMap blocks, k < w1.heap.size := by
    intro k hk
    rcases List.mem_cons.1 hk with rfl | hk
    · exact h1.mp.lt
    · obtain ⟨q, hq, hk⟩ := List.mem_flatMap.1 hk
      exact (h1.own q hq).lt k hk
  have h3 := h2.add (p := ⟨newE tx, w1.heap.size, .slice none 0 0, none, .slice none 0 0⟩) hE hno (by simp [blocks, ownL, Value.ownBlock]) (fun k hk hk2 => by
    simp [blocks, ownL, Value.ownBlock] at hk
    have := hlt1 k hk2
    omega) hm3 hg3
  have hsz := hc1.size
  have hcw : Chg (· = bm) w w3 := ((hc1.mono (T := (· = bm)) (by simp [NoB])).alloc _).grown hg3 (by simp)
  clear hL c1 hlen
  go_wp2
  go_ret
  exact ⟨rfl, _, rfl, h3, hcw, fun k hk => by simp [blocks, ownL, Value.ownBlock] at hk; omega⟩
theorem phase_nil (tx : Int) (w : World) : Calls Try.prog 17 #[.pointer none, .int .i64 tx] w fun e w' => e = .returned (.int .i64 0) ∧ w' = w := by
  have ho := of_nil tx w
  go_enter Try.func17, Try.ntmps17
  go_wp2_with (first | (go_at_call 20; refine ho.mono ?_; clear ho; rintro e w1 ⟨rfl, rfl⟩) | fail)
  go_ret
  exact ⟨rfl, rfl⟩
theorem phase_none (bc bm : Nat) (me tx : Int) (l : List Ep) (w : World) (h : CAt w bc bm me l) (ht : I64 tx) (hno : tx ∉ l.map (·.e.tx)) :
    Calls Try.prog 17 #[.pointer (some ⟨bc, 0, none⟩), .int .i64 tx] w fun e w' => e = .returned (.int .i64 0) ∧ w' = w := by
  have ho := of_none bc bm me tx l w h ht hno
  go_enter Try.func17, Try.ntmps17
  go_wp2_with (first | (go_at_call 20; refine ho.mono ?_; clear ho; rintro e w1 ⟨rfl, rfl⟩) | fail)
  go_ret
  exact ⟨rfl, rfl⟩
theorem phase_some (bc bm : Nat) (me : Int) (l1 l2 : List Ep) (p : Ep) (w : World) (h : CAt w bc bm me (l1 ++ p :: l2)) (ht : I64 p.e.tx) :
    Calls Try.prog 17 #[.pointer (some ⟨bc, 0, none⟩), .int .i64 p.e.tx] w fun e w' => e = .returned (.int .i64 p.e.phase) ∧ w' = w := by
  have ho := of_some bc bm me l1 l2 p w h ht
  have hp := (h.own p (by simp)).hd
  have e1 := hp.cell 1 rfl
  have hlt := hp.lt
  go_enter Try.func17, Try.ntmps17
  go_wp2_with (first | (go_at_call 20; refine ho.mono ?_; clear ho; rintro e w1 ⟨rfl, rfl⟩) | fail)
  go_ret
  exact ⟨rfl, rfl⟩
end Go.Proofs.Ythpnhndligblaaa
