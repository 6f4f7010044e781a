/- The law's 'awake' answers true. Conditions: none. -/
import Derived.Test.YtgpholdeiahldaaDu
import Derived.Test.YtgpholdeiahldaaSrt2
namespace Go.Proofs.Ytgpholdeiahldaa
open Go.RowKit Go.Maps
theorem cmp_due_is : CmpIs 23 dueO := fun x y bo W h => cmp_due x y bo W h
set_option maxHeartbeats 1000000 in
theorem awake_any (w : World) : Calls Try.prog 10 #[] w fun e w' => e = .returned (.bool true) ∧ Chg NoB w w' := by
  have hnew := new_any w
  have hgood : ∀ a : Alarm, a.tx = 7 → a.role = 1 → I64 a.at_ → 0 ≤ a.tries → a.tries ≤ 1 → Good 1 [((7, 1), a)] := by
    intro a h1 h2 h3 h4 h5 p hp
    simp at hp; subst hp
    exact ⟨by simp [h1, h2], by simp [I64, h1], by simp [I64, h2], h3, h4, h5⟩
  have hstart := fun w1 (ht : TAt w1 (w.heap.size + 1) w.heap.size []) => start_ok _ _ [] 7 1 0 w1 ht (by unfold badStart; omega) (by simp [has0])
  have hdue1 := fun w1 (ht : TAt w1 (w.heap.size + 1) w.heap.size [((7, 1), ⟨7, 1, 4, 0⟩)]) => due_any cmp_due_is 1 (by omega) _ _ _ 3 w1 ht (hgood _ rfl rfl (by simp [I64]) (by simp) (by simp)) (by simp [I64]) (by simp)
  have hdue2 := fun w1 (ht : TAt w1 (w.heap.size + 1) w.heap.size [((7, 1), ⟨7, 1, 4, 0⟩)]) => due_any cmp_due_is 1 (by omega) _ _ _ 4 w1 ht (hgood _ rfl rfl (by simp [I64]) (by simp) (by simp)) (by simp [I64]) (by simp)
  have hm1 : mput ([] : List (Key × Alarm)) (7, 1) ⟨7, 1, 0 + 4, 0⟩ = [((7, 1), ⟨7, 1, 4, 0⟩)] := by decide
  have hd1 : dueL [((7, 1), ⟨7, 1, 4, 0⟩)] 3 = [] := by decide
  have hd2 : dueL [((7, 1), ⟨7, 1, 4, 0⟩)] 4 = [⟨7, 1, 4, 0⟩] := by decide
  have hu : upd 4 ⟨7, 1, 4, 0⟩ = ⟨7, 1, 12, 1⟩ := by decide
  rw [hm1] at hstart
  rw [hd1] at hdue1
  rw [hd2] at hdue2
  have HU := Lib.hid hu
  clear hm1 hd1 hd2 hgood hu
  go_enter Try.func10, Try.ntmps10
  go_wp2_with (first | (go_at_call 11; refine hnew.mono ?_; clear hnew; rintro e w1 ⟨rfl, ht1, hc1⟩; go_frame)
                     | (go_at_call 12; refine (hstart _ ht1).mono ?_; clear hstart; rintro e w2 ⟨rfl, ht2, hc2⟩; go_frame)
                     | (refine (hdue1 _ ht2).mono ?_; clear hdue1; rintro e w3 ⟨v3, d3, rfl, hp3, _, hr3, ht3, hc3⟩; have hd3 := hp3.eq_nil; subst hd3; obtain ⟨ao3, cap3, rfl, _⟩ := hr3.shape; go_frame)
                     | (refine (hdue2 _ ht3).mono ?_; clear hdue2; rintro e w4 ⟨v4, d4, rfl, hp4, _, hr4, ht4, hc4⟩; have hd4 := hp4.eq_singleton; subst hd4; obtain ⟨g4, cap4, rfl, _⟩ := row_some hr4 (j := 0) (by simp); obtain ⟨x1, x2, x3, x4⟩ := row_cells hr4 (j := 0) rfl; go_frame)
                     | fail)
  go_ret
  have hT : ∀ j, j < w.heap.size → j = w.heap.size → NoB j := fun j h1 h2 => by omega
  exact ⟨rfl, ((hc1.trans hc2 hT).trans hc3 hT).trans hc4 hT⟩
end Go.Proofs.Ytgpholdeiahldaa
