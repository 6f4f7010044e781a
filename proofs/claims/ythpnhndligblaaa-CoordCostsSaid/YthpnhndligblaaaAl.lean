/- The coordinator: All; Deeds where there is no entry. Conditions: at most 2^40 entries. -/
import Derived.Test.YthpnhndligblaaaPs
namespace Go.Proofs.Ythpnhndligblaaa
open Go.RowKit Go.Maps Go.BigFrame
theorem all_nil (w : World) : Calls Try.prog 12 #[.pointer none] w fun e w' => e = .returned (.slice none 0 0) ∧ Chg NoB w w' := by
  go_enter Try.func12, Try.ntmps12
  go_wp2
  go_ret
  exact ⟨rfl, Chg.refl _ _⟩
theorem all_any (bc bm : Nat) (me : Int) (l : List Ep) (w : World) (h : CAt w bc bm me l) (hl : l.length ≤ 1099511627776) :
    Calls Try.prog 12 #[.pointer (some ⟨bc, 0, none⟩)] w fun e w' => ∃ v, e = .returned v ∧ IRow w' w.heap.size v (sortI (l.map (·.e.tx))) ∧ Chg NoB w w' := by
  have c1 := h.hd.cell 1 rfl
  have hlt := h.hd.lt
  have hk := keysE_any bm w
  have hs := sortedE_any bm _ w h.mp (by simpa using hl)
  rw [List.map_map] at hs
  go_enter Try.func12, Try.ntmps12
  go_wp2_with (first | (go_at_call 30; refine hk.mono ?_; clear hk; rintro e w1 ⟨rfl, rfl⟩) | (go_at_call 29; refine hs.mono ?_; clear hs; rintro e w2 ⟨v, rfl, hr, hc⟩) | fail)
  go_ret
  exact ⟨_, rfl, hr, hc⟩
theorem deeds_none (bc bm : Nat) (me : Int) (w : World) (h : CAt w bc bm me []) :
    Calls Try.prog 13 #[.pointer (some ⟨bc, 0, none⟩)] w fun e w' => e = .returned (.slice none 0 0) ∧ Chg NoB w w' := by
  have ha := all_any bc bm me [] w h (by simp)
  rw [show sortI (([] : List Ep).map (·.e.tx)) = [] by simp [sortI]] at ha
  go_enter Try.func13, Try.ntmps13
  go_wp2_with (first | (go_at_call 12; refine ha.mono ?_; clear ha; rintro e w2 ⟨v, rfl, hr, hc⟩; obtain ⟨ao, cap, rfl, _⟩ := hr.shape) | fail)
  go_loopw [3, 10] (fun s i wr => s = .slice none 0 0 ∧ i = .int .i64 0 ∧ Chg NoB w wr) (fun _ _ _ => 0)
  case atStart => exact ⟨rfl, rfl, hc⟩
  case round =>
    obtain ⟨rfl, rfl, hcr⟩ := hrel
    go_wp2
    go_ret
    exact ⟨rfl, hcr⟩
theorem Pst.all0 {w W : World} {bc bm : Nat} {me : Int} (h : Pst w W bc bm me []) : Calls Try.prog 12 #[.pointer (some ⟨bc, 0, none⟩)] W fun e w' => (∃ a k, e = .returned (.slice a 0 k)) ∧ Chg NoB W w' := by
  obtain ⟨⟨l, a1, a2, a3, a4⟩, h5⟩ := h
  obtain rfl : l = [] := by cases l with | nil => rfl | cons x t => cases a3
  refine (all_any bc bm me [] W a1 (by simp)).mono ?_
  rintro e w' ⟨v, rfl, hr, hc⟩
  obtain ⟨ao, cap, rfl, _⟩ := hr.shape
  exact ⟨⟨ao, cap, by simp [sortI]⟩, hc⟩
theorem Pst.deeds0 {w W : World} {bc bm : Nat} {me : Int} (h : Pst w W bc bm me []) : Calls Try.prog 13 #[.pointer (some ⟨bc, 0, none⟩)] W fun e w' => e = .returned (.slice none 0 0) ∧ Chg NoB W w' := by
  obtain ⟨⟨l, a1, a2, a3, a4⟩, h5⟩ := h
  obtain rfl : l = [] := by cases l with | nil => rfl | cons x t => cases a3
  exact deeds_none bc bm me W a1
end Go.Proofs.Ythpnhndligblaaa
