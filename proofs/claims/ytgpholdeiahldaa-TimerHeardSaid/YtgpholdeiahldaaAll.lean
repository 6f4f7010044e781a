/- The timer's All. Conditions: at most 1024 alarms. -/
import Derived.Test.YtgpholdeiahldaaIt
import Derived.Test.YtgpholdeiahldaaSrt3
namespace Go.Proofs.Ytgpholdeiahldaa
open Go.RowKit Go.Maps
theorem all_nil (w : World) : Calls Try.prog 15 #[.pointer none] w fun e w' => e = .returned (.slice none 0 0) ∧ w' = w := by
  go_enter Try.func15, Try.ntmps15
  go_wp2
  go_ret
  exact ⟨rfl, rfl⟩
set_option maxHeartbeats 1000000 in
theorem all_any (hC : CmpIs 27 allO) (bt bm : Nat) (l : List (Key × Alarm)) (w : World) (ht : TAt w bt bm l) (hlen : l.length ≤ 1024) :
    Calls Try.prog 15 #[.pointer (some ⟨bt, 0, none⟩)] w fun e w' => ∃ (v : Value) (d : List Alarm), e = .returned v ∧ d.Perm (l.map (·.2)) ∧ d.Pairwise (fun x y => lt3 (allO y) (allO x) = false) ∧ Row w' w.heap.size v d ∧ Chg NoB w w' := by
  obtain ⟨ha, hm⟩ := ht
  have hc := ha.cell 0 (v := .map (some bm)) rfl
  have hcol := collect_any w.heap.size bm l (w.alloc (.cells #[.map (some bm)] 50)) ((At.new w [.map (some bm)] 50).cell 0 rfl) (hm.alloc _) (by omega)
  have hval := values_any bm w
  have hs := fun (v : Value) (xs : List Alarm) (w2 : World) (hr : Row w2 (w.heap.size + 1) v xs) (hl : xs.length ≤ 1099511627776) => sorted_any 27 allO hC (w.heap.size + 1) v xs w2 hr hl
  clear hC
  go_enter Try.func15, Try.ntmps15
  go_wp2_with (first | (go_at_call 26; refine hval.mono ?_; clear hval; rintro e w1 ⟨rfl, rfl⟩; go_frame)
                     | (go_at_call 25; refine hcol.mono ?_; clear hcol; rintro e w2 ⟨v2, xs, rfl, hx, hr2, hc2⟩; have hr3 : Row w2 (w.heap.size + 1) v2 xs := (by simpa using hr2); have hx3 : xs.Perm (l.map (·.2)) := (by obtain ⟨ps, h1, rfl⟩ := hx; exact h1.map _); have hx4 : xs.length ≤ 1099511627776 := (by have := hx3.length_eq; simp at this; omega); obtain ⟨ao2, n2, cap2, rfl⟩ := hr3.slice; go_frame)
                     | (go_at_call 22; refine (hs _ _ _ hr3 hx4).mono ?_; clear hs; rintro e w3 ⟨rfl, d, hdp, hds, hrow3, hc3⟩; go_frame)
                     | fail)
  go_ret
  refine ⟨_, d, rfl, hdp.trans hx3, hds, hrow3.mono (by omega), (((Chg.refl _ w).alloc _).trans hc2 (by simp [NoB])).trans hc3 ?_⟩
  intro j hj h
  have := (hr3.ge j h).1
  omega
end Go.Proofs.Ytgpholdeiahldaa
