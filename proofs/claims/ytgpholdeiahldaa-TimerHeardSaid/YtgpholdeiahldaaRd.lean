/- The reference's Delay. Conditions: an int. -/
import Derived.Test.YtgpholdeiahldaaTm
namespace Go.Proofs.Ytgpholdeiahldaa
open Go.RowKit Go.Maps
set_option maxHeartbeats 400000 in
theorem rdelay_any (n : Int) (w : World) (hn : n ≤ 9223372036854775807) :
    Calls Try.prog 9 #[.int .i64 n] w fun e w' => e = .returned (.int .i64 (delayI n)) ∧ w' = w := by
  go_enter Try.func9, Try.ntmps9
  go_wp2
  go_loop [3, 4] (fun d i => ∃ (k : Nat) (x : Int), i = .int .i64 k ∧ d = .int .i64 x ∧ (k ≤ n.toNat) ∧ Pow x ∧ dbl (n.toNat - k) x = delayI n) (fun _ i => n.toNat - (intOf i).toNat)
  case atStart => exact ⟨0, 4, rfl, rfl, by omega, by simp [Pow], by simp [delayI]⟩
  case round =>
    obtain ⟨k, x, rfl, rfl, hk, hp, hd⟩ := hrel
    have hb := hp.bd
    have HD : Hid (dbl (n.toNat - k) x = delayI n) := hd
    clear hd
    by_cases hlt : (k : Int) < n
    · have hd1 : decide ((k : Int) < n) = true := by simpa using hlt
      by_cases hx : x < 64
      · have hd2 : decide (x < 64) = true := by simpa using hx
        go_wp2
        go_round
        case rel => exact ⟨k + 1, 2 * x, by go_num, by simp, by omega, hp.dbl hx, dbl_step hlt hx HD.out⟩
        case measure => simp [intOf]; omega
      · have hd2 : decide (x < 64) = false := by simpa using hx
        have hs := dbl_stop (n.toNat - k) x (by omega)
        have hres : delayI n = x := by rw [← HD.out, hs]
        clear hs
        have HR := Lib.hid hres
        clear hres
        go_wp2
        go_ret
        exact ⟨by rw [HR.out]; rfl, rfl⟩
    · have hd1 : decide ((k : Int) < n) = false := by simpa using hlt
      have hres : delayI n = x := by rw [← HD.out, show n.toNat - k = 0 from by omega, dbl]
      have HR := Lib.hid hres
      clear hres
      go_wp2
      go_ret
      exact ⟨by rw [HR.out]; rfl, rfl⟩
end Go.Proofs.Ytgpholdeiahldaa
