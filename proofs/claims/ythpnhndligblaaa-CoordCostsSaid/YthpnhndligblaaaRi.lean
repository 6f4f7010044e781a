/- Package rec's 'rising' at a list of members. Conditions: at most 2^40 of them. -/
import Derived.Test.YthpnhndligblaaaRp
namespace Go.Proofs.Ythpnhndligblaaa
open Go.RowKit Go.Maps
def membersB (l : List Int) : Bool := decide (l.length ≤ 8) && RF nodeB lowerB none l
set_option maxHeartbeats 1000000 in
theorem rising_int (v : Value) (l : List Int) (w : World) (hv : Sees w cellsI v l) (hl : l.length ≤ 1099511627776) :
    Calls Try.prog 83 #[v, .int .i64 8, .func (.func 59) #[] #[], .func (.func 85) #[] #[]] w fun e w' => e = .returned (.bool (membersB l)) ∧ Chg NoB w w' := by
  unfold membersB
  obtain ⟨ao, c, rfl⟩ := hv.shape
  by_cases h8 : l.length ≤ 8
  · have hd0 : decide ((8 : Int) < (l.length : Int)) = false := by simp; omega
    have hd8 : decide (l.length ≤ 8) = true := by simpa using h8
    rw [hd8, Bool.true_and]
    clear hd8
    have HR : Hid (RF nodeB lowerB none l = RF nodeB lowerB (prevAt l 0) (l.drop 0)) := by simp [Hid, prevAt]
    generalize RF nodeB lowerB none l = R at HR ⊢
    go_enter Try.func83, Try.ntmps83
    go_wp2
    go_loopw [17] (fun i wr => ∃ k : Nat, i = .int .i64 k ∧ k ≤ l.length ∧ Chg NoB w wr ∧ R = RF nodeB lowerB (prevAt l k) (l.drop k)) (fun i _ => l.length - (intOf i).toNat)
    case atStart => exact ⟨0, rfl, Nat.zero_le _, Chg.refl _ w, HR.out⟩
    case round =>
      obtain ⟨k, rfl, hk, hcw, hR⟩ := hrel
      clear HR
      by_cases hlt' : k < l.length
      · obtain ⟨x, hak⟩ : ∃ x, l[k]? = some x := ⟨l[k], by simp [hlt']⟩
        have hl1 : ((k : Int) < (l.length : Int)) := by omega
        have hd1 : decide ((k : Int) < (l.length : Int)) = true := by simpa using hl1
        have hi1 : (0 : Int) ≤ (k : Int) := by omega
        rw [RF_at hak] at hR
        have hvw := hv.no hcw
        obtain ⟨ad, c', hs, q1⟩ := hvw.at_one cellsI_len hak rfl
        cases hs
        have hn := node_any x wr
        have hpost : ∀ b, R = b → Ending.returned (.bool b) = .returned (.bool R) := fun b h => by rw [h]
        cases hb : nodeB x with
        | false =>
          have hf := hpost false (by rw [hR, hb, Bool.false_and, Bool.false_and])
          clear hpost hR
          rw [hb] at hn
          go_wp2_with (go_at_call 59; refine hn.mono ?_; rintro e w2 ⟨rfl, rfl⟩)
          go_ret
          exact ⟨hf, hcw⟩
        | true =>
          rw [hb, Bool.true_and] at hR
          rw [hb] at hn
          by_cases hk0 : k = 0
          · have hp : prevAt l k = none := by rw [hk0]; rfl
            rw [hp] at hR
            simp only [Bool.true_and] at hR
            clear hb hp
            have hd2 : ¬ 0 < k := by omega
            clear hk0
            go_wp2_with (go_at_call 59; refine hn.mono ?_; rintro e w2 ⟨rfl, rfl⟩)
            go_roundw
            case rel => exact ⟨k + 1, by go_num, by omega, hcw, hR⟩
            case measure => simp [intOf]; omega
          · obtain ⟨m, hm⟩ : ∃ m, k = m + 1 := ⟨k - 1, by omega⟩
            obtain ⟨y, hay⟩ : ∃ y, l[k - 1]? = some y := ⟨l[k - 1], List.getElem?_eq_getElem (by omega)⟩
            have hp : prevAt l k = some y := by rw [hm] at hay ⊢; exact hay
            rw [hp] at hR
            simp only at hR
            have hlw := lower_any y x wr
            obtain ⟨ad2, c2, hs2, q2⟩ := hvw.at_one cellsI_len hay rfl
            cases hs2
            have hi2 : (0 : Int) ≤ (k : Int) - 1 := by omega
            have hi3 : (k : Int) - 1 < (l.length : Int) := by omega
            have hd2 : 0 < k := by omega
            clear hp hk0 hm
            cases hb2 : lowerB y x with
            | false =>
              have hf := hpost false (by rw [hR, hb2, Bool.false_and])
              clear hpost hR hb
              rw [hb2] at hlw
              go_wp2_with (first | (go_at_call 59; refine hn.mono ?_; rintro e w2 ⟨rfl, rfl⟩) | (go_at_call 85; refine hlw.mono ?_; rintro e w2 ⟨rfl, rfl⟩))
              go_ret
              exact ⟨hf, hcw⟩
            | true =>
              rw [hb2, Bool.true_and] at hR
              clear hpost hb
              rw [hb2] at hlw
              go_wp2_with (first | (go_at_call 59; refine hn.mono ?_; rintro e w2 ⟨rfl, rfl⟩) | (go_at_call 85; refine hlw.mono ?_; rintro e w2 ⟨rfl, rfl⟩))
              go_roundw
              case rel => exact ⟨k + 1, by go_num, by omega, hcw, hR⟩
              case measure => simp [intOf]; omega
      · obtain rfl : k = l.length := by omega
        have hd1 : decide ((l.length : Int) < (l.length : Int)) = false := by simp
        rw [List.drop_length] at hR
        have hR2 : true = R := by rw [hR]; cases prevAt l l.length <;> rfl
        clear hR
        go_wp2
        go_ret
        exact ⟨ret_b hR2, hcw⟩
  · have hd0 : decide ((8 : Int) < (l.length : Int)) = true := by simp; omega
    have hd8 : decide (l.length ≤ 8) = false := by simpa using h8
    rw [hd8, Bool.false_and]
    clear hd8
    go_enter Try.func83, Try.ntmps83
    go_wp2
    go_ret
    exact ⟨rfl, Chg.refl _ w⟩
end Go.Proofs.Ythpnhndligblaaa
