/- The reference's tests whether two lists of numbers are the same. Conditions: at most 2^40 items. -/
import Derived.Test.YthpnhndligblaaaSt
namespace Go.Proofs.Ythpnhndligblaaa
open Go.RowKit Go.Maps Go.BigFrame
theorem take_succ_eq {α : Type} {a b : List α} {k : Nat} {x : α} (h : a.take k = b.take k) (ha : a[k]? = some x) (hb : b[k]? = some x) : a.take (k + 1) = b.take (k + 1) := by
  rw [List.take_add_one, List.take_add_one, h, ha, hb]
theorem take_all_eq {α : Type} {a b : List α} (hl : a.length = b.length) (h : a.take a.length = b.take a.length) : a = b := by
  rw [List.take_length, hl, List.take_length] at h
  exact h
set_option maxHeartbeats 1000000 in
theorem sameInts_any (va vb : Value) (a b : List Int) (w : World) (ha : Sees w cellsI va a) (hb : Sees w cellsI vb b) (hla : a.length ≤ 1099511627776) (_hlb : b.length ≤ 1099511627776) :
    Calls Try.prog 18 #[va, vb] w fun e w' => e = .returned (.bool (decide (a = b))) ∧ Chg NoB w w' := by
  obtain ⟨aa, ca, rfl⟩ := ha.shape
  obtain ⟨ab, cb, rfl⟩ := hb.shape
  have hno : ∀ h : a ≠ b, Ending.returned (.bool false) = .returned (.bool (decide (a = b))) := fun h => by rw [decide_eq_false h]
  have hye : ∀ h : a = b, Ending.returned (.bool true) = .returned (.bool (decide (a = b))) := fun h => by rw [decide_eq_true h]
  generalize decide (a = b) = R at hno hye ⊢
  by_cases hl : a.length = b.length
  · have hd0 : ((a.length : Int) == (b.length : Int)) = true := by rw [hl]; simp
    go_enter Try.func18, Try.ntmps18
    go_wp2
    go_loopw [5] (fun i wr => ∃ k : Nat, i = .int .i64 k ∧ k ≤ a.length ∧ Chg NoB w wr ∧ a.take k = b.take k) (fun i _ => a.length - (intOf i).toNat)
    case atStart => exact ⟨0, rfl, Nat.zero_le _, Chg.refl _ w, rfl⟩
    case round =>
      obtain ⟨k, rfl, hk, hcw, hR⟩ := hrel
      by_cases hlt' : k < a.length
      · obtain ⟨x, hx⟩ : ∃ x, a[k]? = some x := ⟨a[k], List.getElem?_eq_getElem hlt'⟩
        obtain ⟨y, hy⟩ : ∃ y, b[k]? = some y := ⟨b[k], List.getElem?_eq_getElem (by omega)⟩
        have hl1 : ((k : Int) < (a.length : Int)) := by omega
        have hl2 : ((k : Int) < (b.length : Int)) := by omega
        have hd1 : decide ((k : Int) < (a.length : Int)) = true := by simpa using hl1
        have hi1 : (0 : Int) ≤ (k : Int) := by omega
        obtain ⟨ad, c', hs, q1⟩ := (ha.no hcw).at_one cellsI_len hx rfl
        cases hs
        obtain ⟨ad2, c2, hs2, q2⟩ := (hb.no hcw).at_one cellsI_len hy rfl
        cases hs2
        have x1 := fun p : WIn wr => p.cell q1
        have x2 := fun p : WIn wr => p.cell q2
        by_cases hxy : x = y
        · subst hxy
          have hR' := take_succ_eq hR hx hy
          clear hR hno hye
          go_upto_region 6 with (fail)
          refine wp_region_in _ (Chg.refl _ _) (by kernel_rfl) (by kernel_rfl) ?_
          repeat (go_big_quiet_step (fail))
          refine wpQuiet_nil ?_
          rintro _ ⟨⟨W2, hW2⟩, rfl⟩
          go_wp2
          exact ⟨⟨k + 1, by go_num, by omega, hcw.trans hW2 (by simp [NoB]), hR'⟩, by simp [intOf]; omega⟩
        · have hf := hno (fun h => by rw [h, hy] at hx; exact hxy (Option.some.inj hx).symm)
          have hb : (x == y) = false := by simpa using hxy
          clear hno hye
          go_upto_region 6 with (fail)
          refine wp_region_in _ (Chg.refl _ _) (by kernel_rfl) (by kernel_rfl) ?_
          repeat (go_big_quiet_step (fail))
          refine wpQuiet_nil ?_
          rintro _ ⟨⟨W2, hW2⟩, rfl⟩
          go_wp2
          go_ret
          exact ⟨hf, hcw.trans hW2 (by simp [NoB])⟩
      · obtain rfl : k = a.length := by omega
        have hd1 : decide ((a.length : Int) < (a.length : Int)) = false := by simp
        have hf := hye (take_all_eq hl hR)
        clear hno hye hR
        go_wp2
        go_ret
        exact ⟨hf, hcw⟩
  · have hf := hno (fun h => hl (by rw [h]))
    have hd0 : ((a.length : Int) == (b.length : Int)) = false := by simp; omega
    clear hno hye
    go_enter Try.func18, Try.ntmps18
    go_wp2
    go_ret
    exact ⟨hf, Chg.refl _ w⟩
end Go.Proofs.Ythpnhndligblaaa
