/- The reference's 'Members'. Conditions: at most 2^40 of them. -/
import Derived.Test.YtpjmamobiancdaaRp
namespace Go.Proofs.Ytpjmamobiancdaa
open Go.RowKit Go.Maps
set_option maxHeartbeats 1000000 in
theorem rmembers_any (v : Value) (l : List Int) (w : World) (hv : Sees w cellsI v l) (hl : l.length ≤ 1099511627776) :
    Calls Try.prog 48 #[v] w fun e w' => e = .returned (.bool (RF nodeB lowerB none l)) ∧ Chg NoB w w' := by
  obtain ⟨ao, c, rfl⟩ := hv.shape
  have HR : Hid (RF nodeB lowerB none l = RF nodeB lowerB (prevAt l 0) (l.drop 0)) := by simp [Hid, prevAt]
  generalize RF nodeB lowerB none l = R at HR ⊢
  go_enter Try.func48, Try.ntmps48
  go_wp2
  go_loopw [3] (fun i wr => ∃ k : Nat, i = .int .i64 k ∧ k ≤ l.length ∧ Chg NoB w wr ∧ R = RF nodeB lowerB (prevAt l k) (l.drop k)) (fun i _ => l.length - (intOf i).toNat)
  case atStart => exact ⟨0, rfl, Nat.zero_le _, Chg.refl _ w, HR.out⟩
  case round =>
    obtain ⟨k, rfl, hk, hcw, hR⟩ := hrel
    clear HR
    by_cases hlt' : k < l.length
    · obtain ⟨x, hak⟩ : ∃ x, l[k]? = some x := ⟨l[k], by simp [hlt']⟩
      have hl1 : ((k : Int) < (l.length : Int)) := by omega
      have hd1 : decide ((k : Int) < (l.length : Int)) = true := by simpa using hl1
      have hi1 : (0 : Int) ≤ (k : Int) := by omega
      rw [RF_at hak] at hR
      have hvw := hv.no hcw
      obtain ⟨ad, c', hs, q1⟩ := hvw.at_one cellsI_len hak rfl
      cases hs
      have hpost : ∀ b, R = b → Ending.returned (.bool b) = .returned (.bool R) := fun b h => by rw [h]
      by_cases hx0 : x < 0
      · have hb : nodeB x = false := by simp [nodeB]; omega
        have hf := hpost false (by rw [hR, hb, Bool.false_and, Bool.false_and])
        have hd3 : decide (x < 0) = true := by simpa using hx0
        clear hpost hR hb hx0
        go_wp2
        go_quiet (fail)
        go_wp2
        go_ret
        exact ⟨hf, hcw.drewN _⟩
      · have hd3 : decide (x < 0) = false := by simpa using hx0
        by_cases hx7 : 7 < x
        · have hb : nodeB x = false := by simp [nodeB]; omega
          have hf := hpost false (by rw [hR, hb, Bool.false_and, Bool.false_and])
          have hd4 : decide (7 < x) = true := by simpa using hx7
          clear hpost hR hb hx0
          go_wp2
          go_quiet (fail)
          go_wp2
          go_ret
          exact ⟨hf, hcw.drewN _⟩
        · have hd4 : decide (7 < x) = false := by simpa using hx7
          have hb : nodeB x = true := by simp [nodeB]; omega
          rw [hb, Bool.true_and] at hR
          clear hx0 hx7 hb
          by_cases hk0 : k = 0
          · have hp : prevAt l k = none := by rw [hk0]; rfl
            rw [hp] at hR
            simp only [Bool.true_and] at hR
            clear hp
            have hd2 : decide (0 < k) = false := by simp; omega
            clear hk0
            go_wp2
            go_quiet (fail)
            go_wp2
            exact ⟨⟨k + 1, by go_num, by omega, hcw.drewN _, hR⟩, by simp [intOf]; omega⟩
          · obtain ⟨m, hm⟩ : ∃ m, k = m + 1 := ⟨k - 1, by omega⟩
            obtain ⟨y, hay⟩ : ∃ y, l[k - 1]? = some y := ⟨l[k - 1], List.getElem?_eq_getElem (by omega)⟩
            have hp : prevAt l k = some y := by rw [hm] at hay ⊢; exact hay
            rw [hp] at hR
            simp only at hR
            obtain ⟨ad2, c2, hs2, q2⟩ := hvw.at_one cellsI_len hay rfl
            cases hs2
            have hi2 : (0 : Int) ≤ (k : Int) - 1 := by omega
            have hi3 : (k : Int) - 1 < (l.length : Int) := by omega
            have hd2 : decide (0 < k) = true := by simp; omega
            clear hp hk0 hm
            by_cases hxy : x ≤ y
            · have hb2 : lowerB y x = false := by simp [lowerB]; omega
              have hd5 : decide (x ≤ y) = true := by simpa using hxy
              have hf := hpost false (by rw [hR, hb2, Bool.false_and])
              clear hpost hR hb2 hxy
              go_wp2
              go_quiet (fail)
              go_wp2
              go_ret
              exact ⟨hf, hcw.drewN _⟩
            · have hb2 : lowerB y x = true := by simp [lowerB]; omega
              have hd5 : decide (x ≤ y) = false := by simpa using hxy
              rw [hb2, Bool.true_and] at hR
              clear hpost hb2 hxy
              go_wp2
              go_quiet (fail)
              go_wp2
              exact ⟨⟨k + 1, by go_num, by omega, hcw.drewN _, hR⟩, by simp [intOf]; omega⟩
    · obtain rfl : k = l.length := by omega
      have hd1 : decide ((l.length : Int) < (l.length : Int)) = false := by simp
      rw [List.drop_length] at hR
      have hR2 : true = R := by rw [hR]; cases prevAt l l.length <;> rfl
      clear hR
      go_wp2
      go_ret
      exact ⟨ret_b hR2, hcw⟩
end Go.Proofs.Ytpjmamobiancdaa
