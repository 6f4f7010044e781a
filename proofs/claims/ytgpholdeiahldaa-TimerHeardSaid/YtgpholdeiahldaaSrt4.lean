/- The comparison of two alarms by transaction and role. Conditions: none. -/
import Derived.Test.YtgpholdeiahldaaSrt
import Derived.RegionCalls
import Derived.Deep.RegionHeld3
namespace Go.Proofs.Ytgpholdeiahldaa
open Go.RowKit Go.Maps Go.Sort
set_option maxHeartbeats 4000000 in
theorem cmp_all (a b : Alarm) (bo : Nat) (W : World) (hbox : At W bo [.func (.func 27) #[] #[]] 57) :
    Calls Try.prog 31 #[encA a, encA b, .pointer (some ⟨bo, 0, none⟩)] W fun e w' => e = .returned (.int .i64 (cmp3 (allO a) (allO b))) ∧ New W w' := by
  obtain ⟨a1, a2, a3, a4⟩ := a
  obtain ⟨b1, b2, b3, b4⟩ := b
  have hc := hbox.cell 0 rfl
  have hlt := hbox.lt
  have hn0 : ¬ bo = W.heap.size := by omega
  have hn1 : ¬ bo = W.heap.size + 1 := by omega
  have hn2 : ¬ bo = W.heap.size + 1 + 1 := by omega
  have hn3 : ¬ bo = W.heap.size + 1 + 1 + 1 := by omega
  have hn4 : ¬ bo = W.heap.size + 1 + 1 + 1 + 1 := by omega
  have hn5 : ¬ bo = W.heap.size + 1 + 1 + 1 + 1 + 1 := by omega
  have hn6 : ¬ bo = W.heap.size + 1 + 1 + 1 + 1 + 1 + 1 := by omega
  have hn7 : ¬ bo = W.heap.size + 1 + 1 + 1 + 1 + 1 + 1 + 1 := by omega
  have hn8 : ¬ bo = W.heap.size + 1 + 1 + 1 + 1 + 1 + 1 + 1 + 1 := by omega
  have hl1 : bo < W.heap.size + 1 := by omega
  have hl2 : bo < W.heap.size + 1 + 1 := by omega
  have hl3 : bo < W.heap.size + 1 + 1 + 1 := by omega
  have hl4 : bo < W.heap.size + 1 + 1 + 1 + 1 := by omega
  have hl5 : bo < W.heap.size + 1 + 1 + 1 + 1 + 1 := by omega
  have hl6 : bo < W.heap.size + 1 + 1 + 1 + 1 + 1 + 1 := by omega
  have hl7 : bo < W.heap.size + 1 + 1 + 1 + 1 + 1 + 1 + 1 := by omega
  have hl8 : bo < W.heap.size + 1 + 1 + 1 + 1 + 1 + 1 + 1 + 1 := by omega
  unfold encA allO
  go_enter Try.func31, Try.ntmps31
  go_upto_region 1 with (fail)
  go_cut [6, 7] from 8 (fun x y wc => ∃ bx by_, x = .pointer (some ⟨bx, 0, none⟩) ∧ y = .pointer (some ⟨by_, 0, none⟩) ∧ At wc bx [.int .i64 a1, .int .i64 a2, .int .i64 0] 56 ∧ At wc by_ [.int .i64 b1, .int .i64 b2, .int .i64 0] 56 ∧ New W wc)
  case first =>
    go_region_held3 (fun w' => w'.cell? ⟨bo, 0, none⟩ = some (.func (.func 27) #[] #[]) ∧ w'.cell? ⟨W.heap.size, 0, none⟩ = some (.int .i64 a1) ∧ w'.cell? ⟨W.heap.size, 1, none⟩ = some (.int .i64 a2) ∧ w'.cell? ⟨W.heap.size, 2, none⟩ = some (.int .i64 a3) ∧ w'.cell? ⟨W.heap.size, 3, none⟩ = some (.int .i64 a4) ∧ w'.cell? ⟨W.heap.size + 1, 0, none⟩ = some (.int .i64 b1) ∧ w'.cell? ⟨W.heap.size + 1, 1, none⟩ = some (.int .i64 b2) ∧ w'.cell? ⟨W.heap.size + 1, 2, none⟩ = some (.int .i64 b3) ∧ w'.cell? ⟨W.heap.size + 1, 3, none⟩ = some (.int .i64 b4)) (go_simp) (first | (go_at_call 27; refine (all1_exact _ _ _ _ _).mono ?_; rintro e w' ⟨rfl, rfl⟩))
    all_goals
      go_wp2_with fail
      go_meet
      case rel => exact ⟨_, _, rfl, rfl, by repeat (first | (refine At.newAt ?_; (simp; done)) | refine At.drew ?_ | refine At.alloc ?_ _), by repeat (first | (refine At.newAt ?_; (simp; done)) | refine At.drew ?_ | refine At.alloc ?_ _), by repeat (first | exact New.refl _ | refine New.drew ?_ | refine New.alloc ?_ _)⟩
  case rest =>
    obtain ⟨bx, by_, rfl, rfl, hx, hy, hn⟩ := hcut
    have hcmp := fun n : Nat => compare_any bx by_ ⟨a1, a2, 0⟩ ⟨b1, b2, 0⟩ (wc.drewN n) hx hy
    clear hc hbox
    have HC : Hid (∀ n : Nat, Calls Try.prog 32 #[.slice (some ⟨bx, 0, none⟩) 3 3, .slice (some ⟨by_, 0, none⟩) 3 3] (wc.drewN n) fun e w' => e = .returned (.int .i64 (cmp3 ⟨a1, a2, 0⟩ ⟨b1, b2, 0⟩)) ∧ w' = wc.drewN n) := hcmp
    clear hcmp
    obtain ⟨r, hr⟩ : ∃ r, cmp3 ⟨a1, a2, 0⟩ ⟨b1, b2, 0⟩ = r := ⟨_, rfl⟩
    rw [hr] at HC
    have HR := Lib.hid hr
    clear hr
    go_wp2_with fail
    go_quiet ((go_at_call 32; exact Calls.quiet_of_same (HC.out _)))
    go_wp2_with fail
    go_ret
    exact ⟨by rw [HR.out]; rfl, hn.drewN _⟩
end Go.Proofs.Ytgpholdeiahldaa
