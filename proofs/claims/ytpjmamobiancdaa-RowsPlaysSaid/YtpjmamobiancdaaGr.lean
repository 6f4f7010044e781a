/- The law's 'great': is more asked than is played? Conditions: none. -/
import Derived.Test.YtpjmamobiancdaaAl
namespace Go.Proofs.Ytpjmamobiancdaa
open Go.RowKit Go.Maps Go.BigFrame
def greatR (x : X) : Bool := decide (20 < x.1.ms.length) || decide (80 < x.1.ls.length)
/-- The two slices of a row, as values. -/
def Shaped (x : X) : Prop := (∃ ao c, x.2.1 = .slice ao x.1.ms.length c) ∧ ∃ ao c, x.2.2 = .slice ao x.1.ls.length c
def greatB (L : List X) : Bool := decide (100 < L.length) || L.any greatR
theorem any_take {L : List X} {k : Nat} {x : X} (hx : L[k]? = some x) (h : (L.take k).any greatR = false) (hg : greatR x = false) : (L.take (k + 1)).any greatR = false := by
  rw [List.take_add_one, hx, List.any_append, h]
  simp [hg]
theorem any_yes {L : List X} {k : Nat} {x : X} (hx : L[k]? = some x) (hg : greatR x = true) : L.any greatR = true := List.any_eq_true.2 ⟨x, List.mem_of_getElem? hx, hg⟩
set_option maxHeartbeats 2000000 in
theorem great_any (v : Value) (L : List X) (w : World) (hv : Sees w cellsR v L) (hsh : ∀ x ∈ L, Shaped x) :
    Calls Try.prog 8 #[v] w fun e w' => e = .returned (.bool (greatB L)) ∧ Chg NoB w w' := by
  unfold greatB
  obtain ⟨ao, c, rfl⟩ := hv.shape
  by_cases h1 : 100 < L.length
  · have hd0 : decide ((100 : Int) < (L.length : Int)) = true := by simp; omega
    have hb : decide (100 < L.length) = true := by simpa using h1
    rw [hb, Bool.true_or]
    clear hb h1
    go_enter Try.func8, Try.ntmps8
    go_wp2
    go_ret
    exact ⟨rfl, Chg.refl _ w⟩
  · have hd0 : decide ((100 : Int) < (L.length : Int)) = false := by simp; omega
    have hb : decide (100 < L.length) = false := by simpa using h1
    rw [hb, Bool.false_or]
    clear hb
    have hye : L.any greatR = true → Ending.returned (.bool true) = .returned (.bool (L.any greatR)) := fun h => by rw [h]
    have hno : (L.take L.length).any greatR = false → Ending.returned (.bool false) = .returned (.bool (L.any greatR)) := fun h => by rw [List.take_length] at h; rw [h]
    have hyk := fun (k : Nat) x (hx : L[k]? = some x) (hg : greatR x = true) => hye (any_yes hx hg)
    clear hye
    generalize L.any greatR = R at *
    go_enter Try.func8, Try.ntmps8
    go_wp2
    go_loopw [3] (fun i wr => ∃ k : Nat, i = .int .i64 k ∧ k ≤ L.length ∧ Chg NoB w wr ∧ (L.take k).any greatR = false) (fun i _ => L.length - (intOf i).toNat)
    case atStart => exact ⟨0, rfl, Nat.zero_le _, Chg.refl _ w, rfl⟩
    case round =>
      obtain ⟨k, rfl, hk, hcw, hR⟩ := hrel
      by_cases hlt' : k < L.length
      · obtain ⟨x, hx⟩ : ∃ x, L[k]? = some x := ⟨L[k], List.getElem?_eq_getElem hlt'⟩
        have hl1 : ((k : Int) < (L.length : Int)) := by omega
        have hd1 : decide ((k : Int) < (L.length : Int)) = true := by simpa using hl1
        have hi1 : (0 : Int) ≤ (k : Int) := by omega
        obtain ⟨ad, c', hvv, hcell⟩ := (hv.no hcw).at cellsR_len hx
        cases hvv
        obtain ⟨⟨am, cm, e1⟩, ⟨al, cl, e2⟩⟩ := hsh x (List.mem_of_getElem? hx)
        have q6 := hcell 6 _ rfl
        have q7 := hcell 7 _ rfl
        rw [addr_field _ _ _ (by omega)] at q6 q7
        rw [e1] at q6
        rw [e2] at q7
        have hst := any_take hx hR
        have hyx := hyk k x hx
        have hgx : greatR x = (decide (20 < x.1.ms.length) || decide (80 < x.1.ls.length)) := rfl
        generalize greatR x = G at hst hyx hgx
        generalize x.1.ms.length = nm at *
        generalize x.1.ls.length = nl at *
        clear hyk hno hR hx hcell e1 e2
        by_cases hm : 20 < nm
        · have hd2 : decide (20 < nm) = true := by simpa using hm
          rw [hd2, Bool.true_or] at hgx
          have hf := hyx hgx
          have hd3 : decide ((20 : Int) < (nm : Int)) = true := by simp; omega
          clear hyx hst hgx hd2 hm
          go_wp2
          go_ret
          exact ⟨hf, hcw⟩
        · have hd2 : decide (20 < nm) = false := by simpa using hm
          rw [hd2, Bool.false_or] at hgx
          have hd3 : decide ((20 : Int) < (nm : Int)) = false := by simp; omega
          by_cases hl : 80 < nl
          · have hd4 : decide (80 < nl) = true := by simpa using hl
            rw [hd4] at hgx
            have hf := hyx hgx
            have hd5 : decide ((80 : Int) < (nl : Int)) = true := by simp; omega
            clear hyx hst hgx hd2 hd4 hm hl
            go_wp2
            go_ret
            exact ⟨hf, hcw⟩
          · have hd4 : decide (80 < nl) = false := by simpa using hl
            rw [hd4] at hgx
            have hs := hst hgx
            have hd5 : decide ((80 : Int) < (nl : Int)) = false := by simp; omega
            have HS := Lib.hid hs
            clear hyx hst hgx hd2 hd4 hm hl hs
            go_wp2
            exact ⟨⟨k + 1, by go_num, by omega, hcw, HS.out⟩, by simp [intOf]; omega⟩
      · obtain rfl : k = L.length := by omega
        have hd1 : decide ((L.length : Int) < (L.length : Int)) = false := by simp
        have hf := hno hR
        clear hno hyk hR
        go_wp2
        go_ret
        exact ⟨hf, hcw⟩
end Go.Proofs.Ytpjmamobiancdaa
