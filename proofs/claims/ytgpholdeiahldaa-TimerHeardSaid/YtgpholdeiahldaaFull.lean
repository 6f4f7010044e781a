/- PROVED: 'Rows.TimerFullSaid': for every int the law 'TimerFull' answers true and leaves its argument as it was. Conditions: none beyond the row's own. -/
import Derived.Test.YtgpholdeiahldaaRows
import Derived.Test.YtgpholdeiahldaaAll
import Derived.Test.YtgpholdeiahldaaAw
import Derived.Test.YtgpholdeiahldaaSrt4
import Derived.ProofKit
import Derived.OpenShut
import Derived.ShutString
import Derived.ChangeOld
import Derived.Below
namespace Go.Proofs.Ytgpholdeiahldaa
open Go.ChangeShapes Go.WideShapes Go.ChangeAt Go.RowKit Go.Maps
theorem cmp_all_is : CmpIs 27 allO := fun x y bo W h => cmp_all x y bo W h
/-- The k-th alarm that 'TimerFull' starts. -/
def fullE (j : Nat) : Key × Alarm := (((j : Int) + 1, 1 + (j : Int) % 3), ⟨(j : Int) + 1, 1 + (j : Int) % 3, (j : Int) + 4, 0⟩)
def fullL (k : Nat) : List (Key × Alarm) := (List.range (min k 1024)).map fullE
theorem fullL_len (k : Nat) : (fullL k).length = min k 1024 := by simp [fullL]
theorem fullL_no (k : Nat) (h : min k 1024 ≤ k) (r : Int) : ((k : Int) + 1, r) ∉ (fullL k).map (·.1) := by
  intro hm
  obtain ⟨p, hp, h2⟩ := List.mem_map.1 hm
  unfold fullL at hp
  obtain ⟨j, hj, rfl⟩ := List.mem_map.1 hp
  have := List.mem_range.1 hj
  simp only [fullE, Prod.mk.injEq] at h2
  omega
theorem fullL_has (k : Nat) (r : Int) : has0 (fullL k) ((k : Int) + 1) r = false := by
  unfold has0
  rw [lookup_none (fullL_no k (Nat.min_le_left _ _) r)]
  rfl
theorem fullL_put (k : Nat) (h : k < 1024) : mput (fullL k) ((k : Int) + 1, 1 + (k : Int) % 3) ⟨(k : Int) + 1, 1 + (k : Int) % 3, (k : Int) + 4, 0⟩ = fullL (k + 1) := by
  unfold mput
  rw [if_neg (fullL_no k (Nat.min_le_left _ _) _)]
  unfold fullL
  rw [Nat.min_eq_left (by omega), Nat.min_eq_left (by omega), List.range_succ, List.map_append]
  rfl
theorem fullL_stop (k : Nat) (h : 1024 ≤ k) : fullL k = fullL (k + 1) := by
  unfold fullL
  rw [Nat.min_eq_right h, Nat.min_eq_right (by omega)]
theorem fullL_first (k : Nat) (h : 0 < k) : has0 (fullL k) 1 1 = true := by
  unfold has0
  rw [mget_isSome]
  unfold fullL
  rw [List.map_map]
  exact List.mem_map.2 ⟨0, List.mem_range.2 (by omega), rfl⟩
set_option linter.unusedVariables false in
set_option maxHeartbeats 1000000 in
theorem walk_timerFull (a0 : Int) (w0 : (Lit.int .i64 a0).wf = true) (w : World) : Calls Try.prog 5 #[.int .i64 a0] w fun e w' => e = .returned (.bool true) ∧ Below w.heap.size w w' := by
  have h6 := fun W => awake_any W
  by_cases hr : 0 ≤ a0 ∧ a0 ≤ 1100
  · obtain ⟨hr1, hr2⟩ := hr
    obtain ⟨N, rfl⟩ : ∃ N : Nat, a0 = N := ⟨a0.toNat, by omega⟩
    have hnew := new_any w
    go_enter Try.func5, Try.ntmps5
    go_wp2_with (first | (go_at_call 11; refine hnew.mono ?_; clear hnew; rintro e w1 ⟨rfl, ht1, hc1⟩; go_frame) | fail)
    go_loopw [4] (fun i wr => ∃ k : Nat, i = .int .i64 k ∧ k ≤ N ∧ TAt wr (w.heap.size + 1) w.heap.size (fullL k) ∧ Chg NoB w wr) (fun i _ => N - (intOf i).toNat)
    case atStart => exact ⟨0, rfl, Nat.zero_le _, by simpa [fullL] using ht1, hc1⟩
    case round =>
      obtain ⟨k, rfl, hk, ht, hcw⟩ := hrel
      by_cases hkN : k < N
      · have hl1 : ((k : Int) < (N : Int)) := by omega
        have hd1 : decide ((k : Int) < (N : Int)) = true := by simpa using hl1
        have hlen := fullL_len k
        have hT : ∀ j, j < w.heap.size → j = w.heap.size → NoB j := fun j h1 h2 => by omega
        by_cases hk2 : k < 1024
        · have hk3 : ((k : Int) < 1024) := by omega
          have hs := start_ok (w.heap.size + 1) w.heap.size (fullL k) ((k : Int) + 1) (1 + (k : Int) % 3) k wr ht (by unfold badStart; omega) (Or.inr (by omega))
          rw [fullL_put k hk2] at hs
          go_wp2_with (first | (go_at_call 12; refine hs.mono ?_; clear hs; rintro e w2 ⟨rfl, ht2, hc2⟩; go_frame) | fail)
          exact ⟨⟨k + 1, by go_num, by omega, ht2, hcw.trans hc2 hT⟩, by simp [intOf]; omega⟩
        · have hk3 : ¬ ((k : Int) < 1024) := by omega
          have hs := start_full (w.heap.size + 1) w.heap.size (fullL k) ((k : Int) + 1) (1 + (k : Int) % 3) k wr ht (by unfold badStart; omega) (fullL_has k _) (by omega)
          go_wp2_with (first | (go_at_call 12; refine hs.mono ?_; clear hs; rintro e w2 ⟨rfl, hc2⟩; go_frame) | fail)
          refine ⟨⟨k + 1, by go_num, by omega, ?_, hcw.trans hc2 (by simp [NoB])⟩, by simp [intOf]; omega⟩
          rw [← fullL_stop k (by omega)]
          exact ⟨ht.1.chg hc2 (by simp [NoB]), ht.2.chg hc2 (by simp [NoB])⟩
      · obtain rfl : k = N := by omega
        have hlen := fullL_len k
        have hd1 : decide ((k : Int) < (k : Int)) = false := by simp
        have hT : ∀ j, j < w.heap.size → j = w.heap.size → NoB j := fun j h1 h2 => by omega
        have ha := all_any cmp_all_is (w.heap.size + 1) w.heap.size (fullL k) wr ht (by omega)
        obtain ⟨q, hq⟩ : ∃ q : Nat, min k 1024 = q := ⟨_, rfl⟩
        have hq1 : min (k : Int) 1024 = (q : Int) := by omega
        rw [hq] at hlen
        have HL := Lib.hid hlen
        have HQ := Lib.hid hq
        have hs := fun W (h0 : 0 < k) (h : TAt W (w.heap.size + 1) w.heap.size (fullL k)) => start_ok (w.heap.size + 1) w.heap.size (fullL k) 1 1 9 W h (by unfold badStart; omega) (Or.inl (fullL_first _ h0))
        clear hlen hq hk hkN
        by_cases hk0 : k = 0
        · have hk1 : ((k : Int) == 0) = true := by simpa using hk0
          clear hk0 hs
          go_wp2_with (first | (go_at_call 15; refine ha.mono ?_; clear ha; rintro e w2 ⟨v, d, rfl, hdp, _, hr2, hc2⟩; obtain ⟨ao, cap, rfl, _⟩ := hr2.shape; have hdl := hdp.length_eq; rw [List.length_map, HL.out] at hdl; rw [hdl]; clear hdl hdp hr2; go_frame)
                             | (go_at_call 10; refine (h6 _).mono ?_; clear h6; rintro e W6 ⟨rfl, hc6⟩; go_frame) | fail)
          go_ret
          exact ⟨rfl, ((hcw.trans hc2 (by simp [NoB])).trans hc6 (by simp [NoB])).below (Nat.le_refl _) (fun k h => h.elim)⟩
        · have hk1 : ((k : Int) == 0) = false := by simpa using hk0
          have hs := fun W => hs W (by omega)
          clear hk0
          go_wp2_with (first | (go_at_call 15; refine ha.mono ?_; clear ha; rintro e w2 ⟨v, d, rfl, hdp, _, hr2, hc2⟩; obtain ⟨ao, cap, rfl, _⟩ := hr2.shape; have hdl := hdp.length_eq; rw [List.length_map, HL.out] at hdl; rw [hdl]; clear hdl hdp hr2; go_frame)
                             | (go_at_call 12; refine (hs _ ⟨ht.1.chg hc2 (by simp [NoB]), ht.2.chg hc2 (by simp [NoB])⟩).mono ?_; clear hs; rintro e w3 ⟨rfl, ht3, hc3⟩; go_frame)
                             | (go_at_call 10; refine (h6 _).mono ?_; clear h6; rintro e W6 ⟨rfl, hc6⟩; go_frame) | fail)
          go_ret
          exact ⟨rfl, (((hcw.trans hc2 (by simp [NoB])).trans hc3 hT).trans hc6 (by simp [NoB])).below (Nat.le_refl _) (fun k h => h.elim)⟩
  · go_enter Try.func5, Try.ntmps5
    go_wp2_with (first | (go_at_call 10; refine (h6 _).mono ?_; clear h6; rintro e W6 ⟨rfl, hc6⟩; go_frame) | fail)
    all_goals (first | (exfalso; omega) | (go_ret; exact ⟨rfl, hc6.below (Nat.le_refl _) (fun k h => h.elim)⟩))

theorem own_timerFull : ownKnob Try.prog.godebug = none := by kernel_rfl
set_option maxRecDepth 100000 in
theorem lifted_timerFull (os : Os) (started : os.Started) (H : Type) (enc : TypeId × Value → H) :
    ReturnsInHanded {} Try.checked os 5 .any (Rows.timerFullSpec.pre6 enc Try.prog Try.f5 Rows.timerFullRow.domain false) (Rows.timerFullSpec.post enc Try.prog Try.f5 false true false false) := by
  refine returnsInHanded_of_change (C := Try.checked) own_timerFull started (by kernel_rfl) Try.func5
    (ChangeSpec.witness6 (enc := enc) (C := Try.checked) false ⟨#[], #[.int .i64 0], []⟩ 8 (by kernel_rfl) (by kernel_rfl) (by kernel_rfl) (by kernel_rfl)) ?_
  intro W base args ds gs before hval0 hW hcnd _
  have hval : ∀ (j : Nat) t v, Try.f5.params[j]? = some t → args[j]? = some v → Value.okWide Try.prog W .any base t v := hval0
  have hW' := hW
  obtain ⟨p, q, hA0, hV, rfl, hfz, hnd⟩ := hW
  have hA : DataW.TrodAll enc Try.prog W 0 (fun _ => true) true Try.f5.params.toList args.toList ds p := hA0
  rw [Try.params5] at hA hval
  obtain ⟨v0, vs0, d0, ds0, p0, q0, hargs, rfl, rfl, h0, r0⟩ := trodAll_cons hA
  obtain ⟨rfl, rfl, rfl⟩ := trodAll_nil r0
  obtain rfl : args = #[v0] := by cases args; simp_all
  obtain ⟨rfl, rfl⟩ := trodVars_none hV
  obtain ⟨a0, rfl, rfl, rfl, w0⟩ := open_int Try.underlying3 (hval 0 3 v0 rfl rfl) h0
  clear hA0 hval0
  refine (walk_timerFull a0 w0 W).mono fun e W' ⟨he, bel⟩ => ?_
  subst he
  exact ⟨_, rfl, _, _, _, [], _, [], hW', trodAll_mk1 (shut_bool Try.underlying4 _), (trodAll_cons_mk (shut_int Try.underlying3 w0) trodAll_mk0), rfl, bel.frame _, fun h => by cases h⟩
theorem over_timerFull : Rows.timerFullRow.holds Try.pinned (OpenSpec.ofChange Rows.timerFullSpec) :=
  OpenClaim.holds_of_wide 5 Try.f5 rfl rfl rfl rfl rfl rfl rfl ⟨rfl, rfl, rfl, rfl, rfl⟩ rfl rfl rfl rfl rfl (by kernel_rfl) Try.func5 (by kernel_rfl)
    (of_decide_eq_true (by kernel_rfl)) (by unfold Func.isWrapper; first | (rw [if_pos (by decide +kernel)]; kernel_rfl) | (rw [if_neg (by decide +kernel)]; exact ⟨rfl, rfl⟩))
    (fun os started H enc _ => lifted_timerFull os started H enc)
theorem proved_timerFull : Rows.TimerFullSaid := over_timerFull

end Go.Proofs.Ytgpholdeiahldaa
