/- The reference's 'Locks'. Conditions: at most 2^40 of them. -/
import Derived.Test.YtpjmamobiancdaaRl
namespace Go.Proofs.Ytpjmamobiancdaa
open Go.RowKit Go.Maps Go.BigFrame
theorem Calls.in_same {P : Program} {f : FuncId} {args : Array Value} {W : World} {p : WIn W} {v : Value} (h : Calls P f args p.w fun e w' => e = .returned v ∧ w' = p.w) :
    Calls P f args p.w fun e w' => e = .returned v ∧ ∃ q : WIn W, w' = q.w :=
  h.mono fun _ _ ⟨he, hc⟩ => ⟨he, p, hc⟩
set_option maxHeartbeats 2000000 in
theorem rlocks_any (v : Value) (l : List Lk) (w : World) (hv : Sees w cellsL v l) (hl : l.length ≤ 1099511627776) :
    Calls Try.prog 49 #[v] w fun e w' => e = .returned (.bool (locksB l)) ∧ Chg NoB w w' := by
  unfold locksB
  have hgeq := @binOp_string_geq
  obtain ⟨ao, c, rfl⟩ := hv.shape
  by_cases h8 : l.length ≤ 64
  · have hd0 : decide ((64 : Int) < (l.length : Int)) = false := by simp; omega
    have hd8 : decide (l.length ≤ 64) = true := by simpa using h8
    rw [hd8, Bool.true_and]
    clear hd8
    have HR : Hid (RF mayL lessL none l = RF mayL lessL (prevAt l 0) (l.drop 0)) := by simp [Hid, prevAt]
    generalize RF mayL lessL none l = R at HR ⊢
    go_enter Try.func49, Try.ntmps49
    go_wp2
    go_loopw [3] (fun i wr => ∃ k : Nat, i = .int .i64 k ∧ k ≤ l.length ∧ Chg NoB w wr ∧ R = RF mayL lessL (prevAt l k) (l.drop k)) (fun i _ => l.length - (intOf i).toNat)
    case atStart => exact ⟨0, rfl, Nat.zero_le _, Chg.refl _ w, HR.out⟩
    case round =>
      obtain ⟨k, rfl, hk, hcw, hR⟩ := hrel
      clear HR
      by_cases hlt' : k < l.length
      · obtain ⟨x, hak⟩ : ∃ x, l[k]? = some x := ⟨l[k], by simp [hlt']⟩
        have hl1 : ((k : Int) < (l.length : Int)) := by omega
        have hd1 : decide ((k : Int) < (l.length : Int)) = true := by simpa using hl1
        have hi1 : (0 : Int) ≤ (k : Int) := by omega
        rw [RF_at hak] at hR
        have hvw := hv.no hcw
        obtain ⟨ad, c', hs, q1, q2⟩ := hvw.at_two cellsL_len hak rfl rfl
        cases hs
        have hpost : ∀ b, R = b → Ending.returned (.bool b) = .returned (.bool R) := fun b h => by rw [h]
        have hn := fun W => rkey_any x.1 W
        change ∀ W, Calls Try.prog 46 #[.string x.1] W fun e w' => e = .returned (.bool (mayL x)) ∧ w' = W at hn
        obtain ⟨s, b⟩ := x
        simp only at q1 q2 hn
        have x1 := fun p : WIn wr => p.cell q1
        cases hb : mayL (s, b) with
        | false =>
          have hf := hpost false (by rw [hR, hb, Bool.false_and, Bool.false_and])
          clear hpost hR
          rw [hb] at hn
          clear hb
          go_upto_region 6 with (fail)
          refine wp_region_in _ (Chg.refl _ _) (by kernel_rfl) (by kernel_rfl) ?_
          repeat (go_big_quiet_step (exact Calls.in_same (hn _)))
          refine wpQuiet_nil ?_
          rintro _ ⟨⟨W2, hW2⟩, rfl⟩
          go_wp2
          go_ret
          exact ⟨hf, hcw.trans hW2 (by simp [NoB])⟩
        | true =>
          rw [hb, Bool.true_and] at hR
          rw [hb] at hn
          clear hb
          by_cases hk0 : k = 0
          · have hp : prevAt l k = none := by rw [hk0]; rfl
            rw [hp] at hR
            simp only [Bool.true_and] at hR
            clear hp
            have hd2 : decide (0 < k) = false := by simp; omega
            clear hk0
            go_upto_region 6 with (fail)
            refine wp_region_in _ (Chg.refl _ _) (by kernel_rfl) (by kernel_rfl) ?_
            repeat (go_big_quiet_step (exact Calls.in_same (hn _)))
            refine wpQuiet_nil ?_
            rintro _ ⟨⟨W2, hW2⟩, rfl⟩
            go_wp2
            exact ⟨⟨k + 1, by go_num, by omega, hcw.trans hW2 (by simp [NoB]), hR⟩, by simp [intOf]; omega⟩
          · obtain ⟨m, hm⟩ : ∃ m, k = m + 1 := ⟨k - 1, by omega⟩
            obtain ⟨y, hay⟩ : ∃ y, l[k - 1]? = some y := ⟨l[k - 1], List.getElem?_eq_getElem (by omega)⟩
            have hp : prevAt l k = some y := by rw [hm] at hay ⊢; exact hay
            rw [hp] at hR
            simp only at hR
            obtain ⟨ad2, c2, hs2, y1, y2⟩ := hvw.at_two cellsL_len hay rfl rfl
            cases hs2
            have hi2 : (0 : Int) ≤ (k : Int) - 1 := by omega
            have hi3 : (k : Int) - 1 < (l.length : Int) := by omega
            have hd2 : decide (0 < k) = true := by simp; omega
            clear hp hk0 hm
            obtain ⟨s', b'⟩ := y
            simp only at y1 y2
            have z1 := fun p : WIn wr => p.cell y1
            change R = (Op.bytesLess s'.toList s.toList && _) at hR
            generalize hb2 : Op.bytesLess s'.toList s.toList = b2 at hR
            clear hpost
            cases b2 with
            | false =>
              have hf : Ending.returned (.bool false) = Ending.returned (.bool R) := by rw [hR, Bool.false_and]
              clear hR
              go_upto_region 6 with (fail)
              refine wp_region_in _ (Chg.refl _ _) (by kernel_rfl) (by kernel_rfl) ?_
              repeat (go_big_quiet_step (exact Calls.in_same (hn _)))
              refine wpQuiet_nil ?_
              rintro _ ⟨⟨W2, hW2⟩, rfl⟩
              go_wp2
              go_ret
              exact ⟨hf, hcw.trans hW2 (by simp [NoB])⟩
            | true =>
              rw [Bool.true_and] at hR
              go_upto_region 6 with (fail)
              refine wp_region_in _ (Chg.refl _ _) (by kernel_rfl) (by kernel_rfl) ?_
              repeat (go_big_quiet_step (exact Calls.in_same (hn _)))
              refine wpQuiet_nil ?_
              rintro _ ⟨⟨W2, hW2⟩, rfl⟩
              go_wp2
              exact ⟨⟨k + 1, by go_num, by omega, hcw.trans hW2 (by simp [NoB]), hR⟩, by simp [intOf]; omega⟩
      · obtain rfl : k = l.length := by omega
        have hd1 : decide ((l.length : Int) < (l.length : Int)) = false := by simp
        rw [List.drop_length] at hR
        have hR2 : true = R := by rw [hR]; cases prevAt l l.length <;> rfl
        clear hR
        go_wp2
        go_ret
        exact ⟨ret_b hR2, hcw⟩
  · have hd0 : decide ((64 : Int) < (l.length : Int)) = true := by simp; omega
    have hd8 : decide (l.length ≤ 64) = false := by simpa using h8
    rw [hd8, Bool.false_and]
    clear hd8
    go_enter Try.func49, Try.ntmps49
    go_wp2
    go_ret
    exact ⟨rfl, Chg.refl _ w⟩
end Go.Proofs.Ytpjmamobiancdaa
